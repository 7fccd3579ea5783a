/- Drawn regions: what an operation looks at. -/
import Derived.Test.YtpgdhlnocgfjcaaGreatDoorClCs
set_option linter.unusedSimpArgs false
set_option linter.unusedVariables false
set_option linter.unusedSectionVars false
namespace Go.Cl

theorem parts_congr {T T0 : Tr AV} : ∀ {ps : List (Nat × Operand)}, (∀ x ∈ ps.map (·.2), evalA T x = evalA T0 x) → (ps.map fun p => (p.1, evalA T p.2)) = ps.map fun p => (p.1, evalA T0 p.2)
  | [], _ => rfl
  | p :: ps, h => by
    simp only [List.map_cons]
    rw [h p.2 (by simp), parts_congr (ps := ps) fun x hx => h x (by simp only [List.map_cons, List.mem_cons]; exact .inr hx)]
theorem args_congr {T T0 : Tr AV} : ∀ {xs : List Operand}, (∀ x ∈ xs, evalA T x = evalA T0 x) → xs.map (evalA T) = xs.map (evalA T0)
  | [], _ => rfl
  | x :: xs, h => by
    simp only [List.map_cons]
    rw [h x (by simp), args_congr (xs := xs) fun y hy => h y (by simp [hy])]
theorem opt_congr {T T0 : Tr AV} {o : Option Operand} (h : ∀ x ∈ o.toList, evalA T x = evalA T0 x) : o.map (evalA T) = o.map (evalA T0) := by
  cases o with
  | none => rfl
  | some x => simp only [Option.map_some]; rw [h x (by simp)]

/-- An operation looks at its operands alone. -/
theorem operA_congr (E : Env) (o : Op) {T T0 : Tr AV} (h : ∀ x ∈ o.operands.toList, evalA T x = evalA T0 x) (H : Heap) (nx : Nat) : operA E o T H nx = operA E o T0 H nx := by
  cases o <;> simp only [Op.operands] at h <;> try rfl
  case build t ps => simp only [operA]; rw [parts_congr (by simpa using h)]
  case buildSlice t n ps => simp only [operA]; rw [parts_congr (by simpa using h)]
  case makeFunc fn first caps =>
    cases fn <;> simp only [operA]
    rw [args_congr (xs := first.toList) fun x hx => h x (by simp at hx ⊢; exact .inl hx), args_congr (xs := caps.toList) fun x hx => h x (by simp at hx ⊢; exact .inr hx)]
  case makeMap t r =>
    cases r with
    | none => rfl
    | some x => simp only [operA]; rw [h x (by simp)]
  case slice t x lo hi mx =>
    simp only [operA]
    rw [h x (by simp), opt_congr (o := lo) fun y hy => h y (by simp at hy ⊢; simp [hy]), opt_congr (o := hi) fun y hy => h y (by simp at hy ⊢; simp [hy]), opt_congr (o := mx) fun y hy => h y (by simp at hy ⊢; simp [hy])]
  case call c =>
    simp only [operA]
    split
    · rename_i b hb
      rw [args_congr (xs := c.args.toList) fun x hx => h x (by simp [Call.operands] at hx ⊢; exact .inr hx)]
    · rfl
  case next x b =>
    cases b with
    | true => rfl
    | false => simp only [operA]; rw [h x (by simp)]
  case pick c a b => simp only [operA]; rw [h c (by simp), h a (by simp), h b (by simp)]
  case insert t m k v => simp only [operA]; rw [h m (by simp), h k (by simp), h v (by simp)]
  case mapUpdate t m k v => simp only [operA]; rw [h m (by simp), h k (by simp), h v (by simp)]
  case store t a v => simp only [operA]; rw [h a (by simp), h v (by simp)]
  case binOp op t x y t2 => simp only [operA]; rw [h x (by simp), h y (by simp)]
  case makeSlice t l c => simp only [operA]; rw [h l (by simp), h c (by simp)]
  case indexAddr t x i => simp only [operA]; rw [h x (by simp), h i (by simp)]
  case index t x i => simp only [operA]; rw [h x (by simp), h i (by simp)]
  case lookup t x i ok => simp only [operA]; rw [h x (by simp), h i (by simp)]
  all_goals (simp only [operA]; rw [h _ (by simp)])

theorem callee_congr (o : Op) {T T0 : Tr AV} (h : ∀ x ∈ o.operands.toList, evalA T x = evalA T0 x) : callee o T = callee o T0 := by
  cases o <;> try rfl
  rename_i c
  simp only [Op.operands] at h
  simp only [callee]
  split
  · rename_i f hf
    rw [h f (by simp [Call.operands, hf]), args_congr (xs := c.args.toList) fun x hx => h x (by simp [Call.operands] at hx ⊢; exact .inr hx)]
  · rfl
end Go.Cl
