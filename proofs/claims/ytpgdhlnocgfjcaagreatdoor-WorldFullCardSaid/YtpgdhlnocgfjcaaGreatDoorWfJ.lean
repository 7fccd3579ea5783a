/- WorldFull answers true, as a call. -/
import Derived.Test.YtpgdhlnocgfjcaaGreatDoorWfG
set_option linter.unusedVariables false
namespace Go.Cl.Wf
open Go.Proofs Go.RowKit

theorem RVs_ops {ρ : Nat → Loc} {H : Heap} {U : Gh} {w : World} : ∀ {us : List Value}, (∀ u ∈ us, u.oneCell' = true) → RVs ρ H U w (List.replicate us.length .op) us
  | [], _ => by simp only [List.length_nil, List.replicate_zero, RVs]
  | u :: us, h => by
    simp only [List.length_cons, List.replicate_succ, RVs]
    exact ⟨u, us, rfl, by simp only [RV]; exact h u (by simp), RVs_ops fun x hx => h x (by simp [hx])⟩

theorem full (us us' : Array Value) (n : Nat) (hn : n < 256) (h4 : us.size = 4) (h7 : us'.size = 7) (hu : ∀ u ∈ us.toList, u.oneCell' = true) (hu' : ∀ u ∈ us'.toList, u.oneCell' = true) (w : World) :
    Calls P 3 #[.agg us, .int .u8 n, .agg us'] w fun e w' => e = .returned (.bool true) ∧ Below w.heap.size w w' := by
  refine calls_of_wp Tryz.func3 body_eq ((wpIn_wide (n := 0)).1 ?_)
  have hm : ∀ b, ¬ Mut (fun _ => ⟨0, 0⟩) .lf ⟨fun _ => False, fun _ => False, 0, n⟩ b := by
    rintro b (⟨i, o, hi, _⟩ | h)
    · exact hi
    · exact h
  have R : Rel (fun _ => ⟨0, 0⟩) .lf ⟨fun _ => False, fun _ => False, 0, n⟩ w := ⟨fun i o hi => hi.elim, fun i j oi oj hi => hi.elim, fun b hb => hb.elim⟩
  have hv : RVs (fun _ => ⟨0, 0⟩) .lf ⟨fun _ => False, fun _ => False, 0, n⟩ w args (#[.agg us, .int .u8 n, .agg us'] : Array Value).toList := by
    have e1 := RVs_ops (ρ := fun _ => ⟨0, 0⟩) (H := .lf) (U := ⟨fun _ => False, fun _ => False, 0, n⟩) (w := w) hu
    have e2 := RVs_ops (ρ := fun _ => ⟨0, 0⟩) (H := .lf) (U := ⟨fun _ => False, fun _ => False, 0, n⟩) (w := w) hu'
    rw [Array.length_toList, h4] at e1
    rw [Array.length_toList, h7] at e2
    simp only [args, RVs, RV]
    exact ⟨_, _, rfl, ⟨us, rfl, e1⟩, _, _, rfl, rfl, _, _, rfl, ⟨us', rfl, e2⟩, rfl⟩
  have S : SR (fun _ => ⟨0, 0⟩) ⟨fun _ => False, fun _ => False, 0, n⟩ 50 [] ⟨argsT args 0 .lf, .lf, 0⟩ { tmps := #[.agg us, .int .u8 n, .agg us'] ++ Array.replicate (Tryz.f3.ntmps - (#[.agg us, .int .u8 n, .agg us'] : Array Value).size) undef, defers := [] } w :=
    ⟨args_TR hv _, R, fun i hi => hi.elim, by rw [Tryz.ntmps3]; simp, rfl⟩
  exact body_ok hn rfl S ⟨Nat.le_refl _, fun b hb => ⟨rfl, hm b⟩, rfl, rfl, rfl⟩ fun w' hb => ⟨rfl, hb⟩
end Go.Cl.Wf
