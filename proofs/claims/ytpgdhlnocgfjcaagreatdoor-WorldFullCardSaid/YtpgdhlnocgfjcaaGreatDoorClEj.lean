/- Functions with an answer of their own: slices.Backward. -/
import Derived.Test.YtpgdhlnocgfjcaaGreatDoorClEh
set_option linter.unusedSimpArgs false
set_option linter.unusedVariables false
set_option linter.unusedSectionVars false
namespace Go.Cl
def primBack (g : Nat) : PrimA := fun args H nx => match args with
  | [.sl j r n] => some (.fn g [] [.it nx], H.set nx (.box (.sl j r n)), nx + 1)
  | _ => none
theorem primBack_ok {P : Program} {f g : Nat} {t : TypeId} (he : ∀ args w, (callFunc f args).run P w = .ok (.enter f args) w)
    (hc : ∀ (a : Option Addr) (len cap : Nat) (w : World), Calls P f #[.slice a len cap] w fun e w' => e = .returned (.func (.func g) #[] #[.pointer (some ⟨w.heap.size, 0, none⟩)]) ∧ w' = w.alloc (.cells #[.slice a len cap] t)) : FnOk P f (primBack g) := by
  intro args H nx y H' nx' hp ρ U w vs R B hv
  unfold primBack at hp
  split at hp <;> cases hp
  rename_i j r n
  simp only [RVs] at hv
  obtain ⟨v1, r1, e1, hx, rfl⟩ := hv
  have hx0 := hx
  simp only [RV] at hx
  obtain ⟨hU, a, c, rfl, _⟩ := hx
  rw [arr1 e1]
  refine .inr ⟨he _ _, (hc _ _ _ w).mono ?_⟩
  rintro e w' ⟨rfl, rfl⟩
  have X : Ext ρ H U w (atNew ρ nx ⟨w.heap.size, 0⟩) (H.set nx (.box (.sl j r n))) (Use nx U) { w with heap := w.heap.push (.cells #[.slice (some a) n c] t) } :=
    Ext.new B.not R (Nat.le_refl _) (fun b hb => heap_push_lt w _ hb) (by simp) rfl rfl rfl
  refine ⟨_, rfl, atNew ρ nx ⟨w.heap.size, 0⟩, Use nx U, ?_, ?_, X, ⟨Nat.le_succ _, fun i hi => hi.elim (fun e => .inr ⟨by omega, by omega⟩) .inl⟩⟩
  · simp only [RV, RVs]
    refine ⟨_, _, rfl, rfl, _, _, rfl, ⟨.inl rfl, _, rfl, fun o hg => ?_⟩, rfl⟩
    rw [atNew_new]
  · refine Rel.new (w' := { w with heap := w.heap.push (.cells #[.slice (some a) n c] t) }) B.not R X (Nat.le_refl _) (fun b hb => heap_push_lt w _ hb) (by simp) ?_
    exact ⟨_, t, (0, 0), heap_push_new w _, RV.mono X.toExt0 _ _ hx0⟩
end Go.Cl
