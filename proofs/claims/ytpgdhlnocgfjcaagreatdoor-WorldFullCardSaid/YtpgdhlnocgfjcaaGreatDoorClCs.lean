/- Calls: the abstract machine is sound. -/
import Derived.Test.YtpgdhlnocgfjcaaGreatDoorClCr
set_option linter.unusedSimpArgs false
set_option linter.unusedVariables false
set_option linter.unusedSectionVars false
namespace Go.Cl

abbrev PrimA := List AV → Heap → Nat → R3
abbrev DrawA := CallA → Nat → Array Oper → St → Option St

/-- A function's run. -/
def runF (E : Env) (call : CallA) (draw : DrawA) (fuel : Nat) (f : Nat) (args : List AV) (H : Heap) (nx : Nat) : R3 :=
  match E.fn.get f with
  | some fn => match fn.body with
    | some c => bif Nat.ble args.length fn.ntmps then (match codeA E call (draw call) fn.ntmps fuel c ⟨argsT args 0 .lf, H, nx⟩ with
      | some (.exit _, _) => none
      | some (_, s) => match resultsA E s fn.results.toList with
        | some [x] => some (x, s.H, s.nx)
        | some xs => some (.tup xs, s.H, s.nx)
        | none => none
      | none => none) else none
    | none => none
  | none => none

/-- Calls, so deep. -/
def callN (E : Env) (prim : Nat → Option PrimA) (draw : DrawA) (fuel : Nat) : Nat → CallA
  | 0 => fun _ _ _ _ => none
  | n + 1 => fun f args H nx => match prim f with
    | some p => p args H nx
    | none => runF E (callN E prim draw fuel n) draw fuel f args H nx

/-- What is asked of a function that has an answer of its own. -/
def FnOk (P : Program) (f : Nat) (p : PrimA) : Prop :=
  ∀ args H nx y H' nx', p args H nx = some (y, H', nx') → ∀ ρ U w (vs : Array Value), Rel ρ H U w → Bound U nx → RVs ρ H U w args vs.toList →
    (∃ v w', (callFunc f vs).run P w = .ok (.value v) w' ∧ Ret ρ H U w y H' nx nx' v w') ∨
    ((callFunc f vs).run P w = .ok (.enter f vs) w ∧ Calls P f vs w fun e w' => ∃ v, e = .returned v ∧ Ret ρ H U w y H' nx nx' v w')

/-- What a result reads as. -/
def resSem (tmps : Array Value) : ResultVar → Sem Value
  | .tmp t => pure (tmps.getD t undef)
  | .cell a t => do loadVar t (← asAddr (tmps.getD a undef))
theorem results_eq (fn : Func) (tmps : Array Value) : results fn tmps = (do let vs ← fn.results.mapM (resSem tmps); pure (if h : vs.size = 1 then vs[0] else .tuple vs)) := by
  have h : (resSem tmps) = (fun | .tmp t => pure (tmps.getD t undef) | .cell a t => do loadVar t (← asAddr (tmps.getD a undef))) := by
    funext r
    cases r <;> rfl
  rw [h]
  rfl

section
variable {P : Program} {E : Env} (hE : E.Ok P)

theorem argsT_get : ∀ (args : List AV) (k : Nat) (T : Tr AV) (j : Nat), (argsT args k T).get j = if k ≤ j ∧ j < k + args.length then args[j - k]? else T.get j
  | [], k, T, j => by
    simp only [argsT, List.length_nil, Nat.add_zero]
    rw [if_neg (by omega)]
  | x :: xs, k, T, j => by
    simp only [argsT]
    rw [argsT_get xs (k + 1), Tr.get_set]
    by_cases h : j = k
    · subst h
      rw [if_neg (by omega), if_pos rfl, if_pos ⟨Nat.le_refl _, by simp⟩]
      simp
    · rw [if_neg h]
      by_cases h2 : k + 1 ≤ j ∧ j < k + 1 + xs.length
      · rw [if_pos h2, if_pos ⟨by omega, by simp; omega⟩]
        rw [show j - k = (j - (k + 1)) + 1 by omega]
        simp
      · rw [if_neg h2, if_neg (by simp; omega)]

theorem args_TR {ρ : Nat → Loc} {H : Heap} {U : Gh} {w : World} {args : List AV} {vs : Array Value} (h : RVs ρ H U w args vs.toList) (k : Nat) : TR ρ H U w (argsT args 0 .lf) (vs ++ Array.replicate k undef) := by
  intro t x hx
  rw [argsT_get] at hx
  split at hx
  · rename_i hlt
    obtain ⟨v, h1, h2⟩ := (RVs_iff.1 h).2 _ x hx
    have hl := (RVs_iff.1 h).1
    simp only [Nat.sub_zero, Array.getElem?_toList] at h1
    have : (vs ++ Array.replicate k undef).getD t undef = v := by
      rw [Array.getD_eq_getD_getElem?, Array.getElem?_append_left (Array.getElem?_eq_some_iff.1 h1).1, h1]
      rfl
    rw [this]
    exact h2
  · cases hx

include hE
theorem result_sound {ρ : Nat → Loc} {U : Gh} {w : World} {s : St} {tmps : Array Value} (hT : TR ρ s.H U w s.T tmps) (R : Rel ρ s.H U w) {rv : ResultVar} {x : AV} (h : resultA E s rv = some x) :
    ∃ v, (resSem tmps rv).run P w = .ok v w ∧ RV ρ s.H U w x v := by
  unfold resultA at h
  cases rv with
  | tmp t =>
    simp only [Option.some.injEq] at h
    subst h
    exact ⟨_, rfl, hT.get t⟩
  | cell a t =>
    simp only at h
    split at h
    case h_2 => cases h
    rename_i ti hti
    have ha := hT.get a
    obtain ⟨u, h1, h2⟩ := load_sound (hE.ty _ _ hti) R h ha
    refine ⟨u, ?_, h2⟩
    generalize getT s.T a = xa at ha h
    have hp : ∃ ad, tmps.getD a undef = .pointer (some ad) := by
      cases xa <;> simp only [loadA, reduceCtorEq] at h <;> simp only [RV] at ha
      · obtain ⟨_, ad, hv, _⟩ := ha; exact ⟨ad, hv⟩
      · obtain ⟨_, b, o', hv, _⟩ := ha; exact ⟨_, hv⟩
    obtain ⟨ad, hp⟩ := hp
    simpa [resSem, hp, Instr.loadAt, Instr.sureAddr, asAddr] using h1

theorem results_list {ρ : Nat → Loc} {U : Gh} {w : World} {s : St} {tmps : Array Value} (hT : TR ρ s.H U w s.T tmps) (R : Rel ρ s.H U w) : ∀ {rs : List ResultVar} {xs : List AV}, resultsA E s rs = some xs →
    ∃ vs, (rs.mapM (resSem tmps)).run P w = .ok vs w ∧ RVs ρ s.H U w xs vs
  | [], xs, h => by
    simp only [resultsA, Option.some.injEq] at h
    subst h
    exact ⟨[], rfl, rfl⟩
  | rv :: rs, xs, h => by
    simp only [resultsA] at h
    cases hx : resultA E s rv with
    | none => simp [hx] at h
    | some x =>
      cases hxs : resultsA E s rs with
      | none => simp [hx, hxs] at h
      | some xs' =>
        simp only [hx, hxs, Option.some.injEq] at h
        subst h
        obtain ⟨v, h1, h2⟩ := result_sound hE hT R hx
        obtain ⟨vs, h3, h4⟩ := results_list hT R hxs
        refine ⟨v :: vs, ?_, by simp only [RVs]; exact ⟨v, vs, rfl, h2, h4⟩⟩
        rw [List.mapM_cons, Sem.run_bind]
        rw [h1]
        simp [Sem.run_bind, h3]

theorem results_sound {ρ : Nat → Loc} {U : Gh} {w : World} {s : St} {tmps : Array Value} (hT : TR ρ s.H U w s.T tmps) (R : Rel ρ s.H U w) {fn : Func} {xs : List AV} (h : resultsA E s fn.results.toList = some xs) :
    ∃ vs : List Value, (results fn tmps).run P w = .ok (match vs with | [v] => v | vs => .tuple vs.toArray) w ∧ RVs ρ s.H U w xs vs := by
  obtain ⟨vs, h1, h2⟩ := results_list (P := P) hE hT R h
  refine ⟨vs, ?_, h2⟩
  rw [results_eq, Array.mapM_eq_mapM_toList]
  simp only [Sem.run_bind, map_eq_pure_bind, bind_assoc, pure_bind]
  rw [h1]
  simp only [Result.andThen_ok, Sem.run_pure]
  congr 1
  match vs with
  | [] => simp
  | [v] => simp
  | v :: u :: vs => simp

theorem runF_sound {call : CallA} {draw : DrawA} {fuel : Nat} (hc : CallOk P call) (hd : DrawOk P (draw call)) (f : Nat) : FnOk P f (runF E call draw fuel f) := by
  intro args H nx y H' nx' h ρ U w vs R B hv
  unfold runF at h
  split at h
  case h_2 => cases h
  rename_i fn hf
  obtain ⟨hf1, hf2⟩ := hE.fn _ _ hf
  split at h
  case h_2 => cases h
  rename_i c hb
  cases hbl : Nat.ble args.length fn.ntmps with
  | false => rw [hbl, cond_false] at h; cases h
  | true =>
    rw [hbl, cond_true] at h
    have hle := bleT hbl
    have hl := RVs_length hv
    have hf2' : fn.name ≠ "runtime.NumGoroutine" := by simpa using hf2
    refine .inr ⟨by simp [callFunc, run_program, hf1, hf2', hb], ?_⟩
    refine calls_of_wp hf1 hb ?_
    have S : SR ρ U fn.ntmps [] ⟨argsT args 0 .lf, H, nx⟩ { tmps := vs ++ Array.replicate (fn.ntmps - vs.size) undef, defers := [] } w :=
      ⟨args_TR hv _, R, B, by simp at hl ⊢; omega, rfl⟩
    -- how it is left
    have fin : ∀ (s : St) (a' : Act) (w' : World) (ρ' : Nat → Loc) (U' : Gh), (match resultsA E s fn.results.toList with | some [x] => some (x, s.H, s.nx) | some xs => some (.tup xs, s.H, s.nx) | none => none) = some (y, H', nx') →
        SR ρ' U' fn.ntmps [] s a' w' → Ext ρ H U w ρ' s.H U' w' → Grow U nx U' s.nx → a'.defers = [] ∧ ∃ v, (results fn a'.tmps).run P w' = .ok v w' ∧ ∃ v', Ending.returned v = .returned v' ∧ Ret ρ H U w y H' nx nx' v' w' := by
      intro s a' w' ρ' U' hr S' X G
      split at hr <;> cases hr
      · rename_i hx
        obtain ⟨us, h1, h2⟩ := results_sound (P := P) hE S'.tr S'.rel hx
        simp only [RVs] at h2
        obtain ⟨u, r, rfl, h3, rfl⟩ := h2
        exact ⟨S'.defers, u, h1, u, rfl, ρ', U', h3, S'.rel, X, G⟩
      · rename_i xs hne hx
        obtain ⟨us, h1, h2⟩ := results_sound (P := P) hE S'.tr S'.rel hx
        have hlen := RVs_length h2
        have h1' : (results fn a'.tmps).run P w' = .ok (.tuple us.toArray) w' := by
          rw [h1]
          match us with
          | [] => rfl
          | [u] =>
            exfalso
            cases xs with
            | nil => simp at hlen
            | cons x xs => cases xs with
              | nil => exact hne x rfl
              | cons => simp at hlen
          | u :: u2 :: us => rfl
        exact ⟨S'.defers, _, h1', _, rfl, ρ', U', by simp only [RV]; exact ⟨_, rfl, h2⟩, S'.rel, X, G⟩
    split at h
    · cases h
    · rename_i e s hne hx
      have := codeA_sound (r := none) hE hc hd fuel c _ e s hx ρ U _ w (bodyPost P fn fun e w' => ∃ v, e = .returned v ∧ Ret ρ H U w y H' nx nx' v w') S (fun a' w' ρ' U' S' X G => by
        obtain ⟨f1, f2⟩ := fin s a' w' ρ' U' h S' X G
        cases e with
        | normal => exact ⟨f1, f2⟩
        | ret => exact ⟨f1, f2⟩
        | exit id => exact (hne id rfl).elim)
      exact wpIn_wide.1 this
    · cases h

theorem callN_sound {prim : Nat → Option PrimA} {draw : DrawA} {fuel : Nat} (hp : ∀ f p, prim f = some p → FnOk P f p) (hd : ∀ call, CallOk P call → DrawOk P (draw call)) : ∀ n, CallOk P (callN E prim draw fuel n)
  | 0 => by intro f args H nx y H' nx' h; simp [callN] at h
  | n + 1 => by
    have ih := callN_sound hp hd (fuel := fuel) n
    intro f args H nx y H' nx' h
    simp only [callN] at h
    split at h
    · rename_i p hpf
      exact hp f p hpf args H nx y H' nx' h
    · exact runF_sound hE ih (hd _ ih) f args H nx y H' nx' h
end
end Go.Cl
