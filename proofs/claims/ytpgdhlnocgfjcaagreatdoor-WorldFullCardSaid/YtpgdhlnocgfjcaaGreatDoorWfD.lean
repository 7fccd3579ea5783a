/- slices.Backward: its iterator goes through a slice's ints from the end (turned from the kit's walk of slices.All). -/
import Derived.RangeFuncBox
import Derived.RangeFuncLeaves
import Derived.Shelf.Abstract
import Derived.WalkKit
import Derived.OwnWalkIn
import Derived.TacticsInMore
import Derived.LoopNIn
import Derived.LoopIn
import Derived.Test.YtpgdhlnocgfjcaaGreatDoorProg
namespace Go.Proofs
open Go.RowKit Go.Shelf

attribute [local go_sem] Oper.semAt_some

set_option maxRecDepth 100000 in
set_option maxHeartbeats 2000000 in
theorem Tryz.backward_in (F : Fence) (n : Nat) (h7 : F.fn 246) (hro : F.round = none) (hn : F.depth.isSome = true → 1 ≤ n) (l Bs len : Nat) (hlen : len ≤ 4611686018427387904) (J : Nat → World → Prop)
    (h0c : ∀ W, J 0 W → ∃ p cap, W.cell? ⟨Bs, 0, none⟩ = some (.slice p len cap))
    (hY : ∀ k W, k < len → J k W → ∃ b off cap x, W.cell? ⟨Bs, 0, none⟩ = some (.slice (some ⟨b, off, none⟩) len cap) ∧ W.cell? ⟨b, off + (len - 1 - k), none⟩ = some (.int .i64 x) ∧
      YieldAt F (n - 1) Tryz.prog l #[.int .i64 ((len - 1 - k : Nat) : Int), .int .i64 x] W fun e W' => e = .returned (.bool true) ∧ J (k + 1) W')
    (W : World) (h0 : J 0 W) :
    CallsIn F n Tryz.prog 246 #[.func (.yield l) #[] #[], .pointer (some ⟨Bs, 0, none⟩)] W fun e W' => (∃ v, e = .returned v) ∧ J len W' := by
  obtain ⟨p0, cap0, hc0⟩ := h0c W h0
  refine callsIn_of_wp Tryz.func246 rfl h7 ?_ hro
  simp only [Tryz.ntmps246, List.size_toArray, List.length_cons, List.length_nil, Nat.reduceAdd, Nat.reduceSub, Array.replicate_succ, Array.replicate_zero, List.push_toArray, List.append_toArray, List.nil_append, List.cons_append]
  gi_wp2
  gi_loopw [3] (fun i wr => ∃ k : Nat, k ≤ len ∧ i = .int .i64 ((len : Int) - 1 - k) ∧ J k wr) (fun i _ => (intOf i + 1).toNat)
  case atStart => exact ⟨0, Nat.zero_le _, by simp, h0⟩
  case round =>
    obtain ⟨k, hk, rfl, hJs⟩ := hrel
    by_cases hlt : k < len
    · obtain ⟨b, off, cap, x, hc1, hc2, fn, tmps, assign, body, hy, hR⟩ := hY k wr hlt hJs
      have e1 : ((len - 1 - k : Nat) : Int) = (len : Int) - 1 - k := by omega
      have c0 : (0 : Int) ≤ (len : Int) - 1 - k := by omega
      have c1 : (len : Int) - 1 - k < len := by omega
      have c2 : ((len : Int) - 1 - k).toNat = len - 1 - k := by omega
      rw [e1] at hy
      gi_wp2
      refine ⟨hn, hR.mono ?_⟩
      rintro e W3 ⟨rfl, hJ3⟩
      gi_wp2
      go_roundw
      case rel => exact ⟨k + 1, by omega, by simp; omega, hJ3⟩
      case measure => simp [intOf]; omega
    · obtain rfl : k = len := by omega
      gi_wp2
      go_end0
      exact ⟨⟨_, rfl⟩, hJs⟩

set_option maxHeartbeats 1000000 in
/-- slices.Backward: the slice value is boxed; the function value captures the box. -/
theorem Tryz.Backward_at (a : Option Addr) (len cap : Nat) (w : World) :
    Calls Tryz.prog 168 #[.slice a len cap] w fun e w' => e = .returned (.func (.func 246) #[] #[.pointer (some ⟨w.heap.size, 0, none⟩)]) ∧ w' = w.alloc (.cells #[.slice a len cap] 37) := by
  go_enter Tryz.func168, Tryz.ntmps168
  go_wp2
  go_ret
  exact ⟨rfl, rfl⟩
end Go.Proofs
