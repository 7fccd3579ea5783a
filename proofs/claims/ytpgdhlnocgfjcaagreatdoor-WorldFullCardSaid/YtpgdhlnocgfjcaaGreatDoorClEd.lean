/- The machine's tables, made out of a program's own. -/
import Derived.Test.YtpgdhlnocgfjcaaGreatDoorClDb
set_option linter.unusedSimpArgs false
set_option linter.unusedVariables false
namespace Go.Cl

/-- Each second of a list. -/
noncomputable def half {α : Type} (l : List α) : Bool → List α := List.rec (motive := fun _ => Bool → List α) (fun _ => []) (fun x _ ih b => Bool.rec (motive := fun _ => List α) (ih true) (x :: ih false) b) l
noncomputable def ofL {α : Type} : Nat → List α → Tr α
  | 0, _ => .lf
  | n + 1, l => List.rec (motive := fun _ => Tr α) .lf (fun x xs _ => .nd (some x) (ofL n (half xs true)) (ofL n (half xs false))) l
noncomputable def mapT {α β : Type} (f : α → Option β) (T : Tr α) : Tr β := Tr.rec (motive := fun _ => Tr β) .lf (fun v _ _ l r => .nd (v.bind f) l r) (fun k v _ t => .ov k (v.bind f) t) T
def tab {α : Type} : Nat → (Nat → Option α) → Tr α
  | 0, _ => .lf
  | n + 1, f => .nd (f 0) (tab n fun k => f (2 * k + 1)) (tab n fun k => f (2 * k + 2))

theorem half_get {α : Type} : ∀ (l : List α) (k : Nat), (half l true)[k]? = l[2 * k]? ∧ (half l false)[k]? = l[2 * k + 1]?
  | [], k => by simp [half]
  | x :: xs, k => by
    have e1 : half (x :: xs) true = x :: half xs false := rfl
    have e2 : half (x :: xs) false = half xs true := rfl
    rw [e1, e2]
    refine ⟨?_, ?_⟩
    · cases k with
      | zero => simp
      | succ k =>
        have := (half_get xs k).2
        simp only [List.getElem?_cons_succ, this]
        rw [show 2 * (k + 1) = (2 * k + 1) + 1 by omega, List.getElem?_cons_succ]
    · rw [(half_get xs k).1, List.getElem?_cons_succ]
theorem ofL_get {α : Type} : ∀ (n : Nat) (l : List α) (k : Nat) (x : α), (ofL n l).get k = some x → l[k]? = some x
  | 0, l, k, x, h => by simp [ofL, Tr.get] at h
  | n + 1, [], k, x, h => by simp [ofL, Tr.get] at h
  | n + 1, y :: l, k, x, h => by
    have e : ofL (n + 1) (y :: l) = .nd (some y) (ofL n (half l true)) (ofL n (half l false)) := rfl
    rw [e] at h
    by_cases hk : k = 0
    · subst hk; simpa [Tr.get, beq_true] using h
    · simp only [Tr.get, beq_false hk, cond_false] at h
      by_cases hm : (k - 1) % 2 = 0
      · rw [hm, beq_true, cond_true] at h
        have := ofL_get n _ _ _ h
        rw [(half_get l _).1] at this
        rw [show k = 2 * ((k - 1) / 2) + 1 by omega, List.getElem?_cons_succ]
        exact this
      · rw [beq_false hm, cond_false] at h
        have := ofL_get n _ _ _ h
        rw [(half_get l _).2] at this
        rw [show k = (2 * ((k - 1) / 2) + 1) + 1 by omega, List.getElem?_cons_succ]
        exact this
theorem mapT_get {α β : Type} (f : α → Option β) : ∀ (T : Tr α) (k : Nat), (mapT f T).get k = (T.get k).bind f
  | .lf, k => rfl
  | .nd v l r, k => by
    have e : mapT f (.nd v l r) = .nd (v.bind f) (mapT f l) (mapT f r) := rfl
    rw [e]
    simp only [Tr.get]
    cases Nat.beq k 0 <;> simp only [cond_true, cond_false]
    cases Nat.beq ((k - 1) % 2) 0 <;> simp only [cond_true, cond_false]
    · exact mapT_get f r _
    · exact mapT_get f l _
  | .ov k' v t, k => by
    have e : mapT f (.ov k' v t) = .ov k' (v.bind f) (mapT f t) := rfl
    rw [e]
    simp only [Tr.get]
    cases Nat.beq k k' <;> simp only [cond_true, cond_false]
    exact mapT_get f t _
theorem tab_get {α : Type} : ∀ (n : Nat) (f : Nat → Option α) (k : Nat) (x : α), (tab n f).get k = some x → f k = some x
  | 0, f, k, x, h => by simp [tab, Tr.get] at h
  | n + 1, f, k, x, h => by
    simp only [tab, Tr.get] at h
    by_cases hk : k = 0
    · subst hk; simpa [beq_true] using h
    · simp only [beq_false hk, cond_false] at h
      by_cases hm : (k - 1) % 2 = 0
      · rw [hm, beq_true, cond_true] at h
        have := tab_get n _ _ _ h
        rwa [show 2 * ((k - 1) / 2) + 1 = k by omega] at this
      · rw [beq_false hm, cond_false] at h
        have := tab_get n _ _ _ h
        rwa [show 2 * ((k - 1) / 2) + 2 = k by omega] at this

/-- A type's data, where the types' table is a trie. -/
def tiIn (TT : Tr TypeInfo) (i : TypeInfo) : Option TI :=
  match (match i.desc with | .named _ u => (TT.get u).map (·.desc) | d => some d) with
  | some d => some ⟨i.size, i.bytes, (match i.zero with | some z => z.cells.toList.map AV.of1 | none => []), tdOf d, i.zero.map AV.of⟩
  | none => none
def fnIn (g : Func) : Option Func := bif g.name == "runtime.NumGoroutine" then none else some g

noncomputable def envOf (P : Program) : Env := ⟨mapT (tiIn (ofL 12 P.types.toList)) (ofL 12 P.types.toList), mapT fnIn (ofL 12 P.funcs.toList), tab 12 (eqOf P)⟩

theorem info_of {P : Program} {t : Nat} {info : TypeInfo} (h : P.types[t]? = some info) : P.info? t = some info := by
  have hlt := (Array.getElem?_eq_some_iff.1 h).1
  unfold Tables.info?
  rw [if_pos hlt]
  exact h

theorem envOf_ok (P : Program) : (envOf P).Ok P := by
  refine ⟨fun t i h => ?_, fun f g h => ?_, fun t ds h => tab_get _ _ _ _ h⟩
  · have h : (mapT (tiIn (ofL 12 P.types.toList)) (ofL 12 P.types.toList)).get t = some i := h
    rw [mapT_get] at h
    cases hg : (ofL 12 P.types.toList).get t with
    | none => rw [hg] at h; cases h
    | some info =>
      rw [hg] at h
      have h1 : P.types[t]? = some info := by simpa using ofL_get _ _ _ _ hg
      simp only [Option.bind_some, tiIn] at h
      have hi : P.info? t = some info := info_of h1
      unfold tiOf Program.underlying
      rw [hi]
      cases hd : info.desc with
      | named s u =>
        simp only [hd] at h
        cases hu : (ofL 12 P.types.toList).get u with
        | none => rw [hu] at h; cases h
        | some iu =>
          rw [hu] at h
          have h2 : P.types[u]? = some iu := by simpa using ofL_get _ _ _ _ hu
          have hiu : P.info? u = some iu := info_of h2
          obtain ⟨d0, i1, i2, i3, i4, i5, i6, i7⟩ := info
          simp only at hd
          subst hd
          simp only [hiu, Option.map_some] at h ⊢
          exact h
      | _ =>
        obtain ⟨d0, i1, i2, i3, i4, i5, i6, i7⟩ := info
        simp only at hd
        subst hd
        exact h
  · have h : (mapT fnIn (ofL 12 P.funcs.toList)).get f = some g := h
    rw [mapT_get] at h
    cases hg : (ofL 12 P.funcs.toList).get f with
    | none => rw [hg] at h; cases h
    | some g' =>
      rw [hg] at h
      have h1 : P.funcs[f]? = some g' := by simpa using ofL_get _ _ _ _ hg
      simp only [Option.bind_some, fnIn] at h
      cases hb : (g'.name == "runtime.NumGoroutine") with
      | true => rw [hb] at h; cases h
      | false =>
        rw [hb, cond_false] at h
        cases h
        exact ⟨h1, hb⟩
end Go.Cl
