/- The abstract machine at this program. -/
import Derived.Test.YtpgdhlnocgfjcaaGreatDoorClEi
import Derived.Test.YtpgdhlnocgfjcaaGreatDoorClEj
import Derived.Test.YtpgdhlnocgfjcaaGreatDoorClEd
import Derived.Test.YtpgdhlnocgfjcaaGreatDoorWfB
import Derived.Test.YtpgdhlnocgfjcaaGreatDoorWfC
import Derived.Test.YtpgdhlnocgfjcaaGreatDoorWfD
namespace Go.Cl.Wf
open Go.Proofs
noncomputable abbrev P : Program := Tryz.prog
noncomputable def E : Env := envOf P
theorem E_ok : E.Ok P := envOf_ok P
noncomputable def prim (f : Nat) : Option PrimA :=
  bif Nat.beq f 284 then some primClone else
  bif Nat.beq f 293 then some primCnt else
  bif Nat.beq f 335 then some primIdx else
  bif Nat.beq f 368 then some primExpand else
  bif Nat.beq f 62 then some (primKeys 123) else
  bif Nat.beq f 63 then some (primKeys 124) else
  bif Nat.beq f 67 then some (primKeys 127) else
  bif Nat.beq f 61 then some (primSorted [123, 124, 127]) else
  bif Nat.beq f 168 then some (primBack 246) else none
def bk (f : Nat) : Bool := Nat.beq f 246

theorem keysA_at (mb : Option Nat) (w : World) : Calls P 62 #[.map mb] w fun e w' => e = .returned (.func (.func 123) #[] #[.pointer (some ⟨w.heap.size, 0, none⟩)]) ∧ w' = w.alloc (.cells #[.map mb] 79) :=
  (callsIn_wide (n := 5)).1 (AnyZI.keys_in Tryz.keysA Fence.wide 5 trivial rfl mb w)
theorem keysB_at (mb : Option Nat) (w : World) : Calls P 63 #[.map mb] w fun e w' => e = .returned (.func (.func 124) #[] #[.pointer (some ⟨w.heap.size, 0, none⟩)]) ∧ w' = w.alloc (.cells #[.map mb] 75) :=
  (callsIn_wide (n := 5)).1 (AnyZI.keys_in Tryz.keysB Fence.wide 5 trivial rfl mb w)
theorem keysC_at (mb : Option Nat) (w : World) : Calls P 67 #[.map mb] w fun e w' => e = .returned (.func (.func 127) #[] #[.pointer (some ⟨w.heap.size, 0, none⟩)]) ∧ w' = w.alloc (.cells #[.map mb] 214) :=
  (callsIn_wide (n := 5)).1 (AnyZI.keys_in Tryz.keysC Fence.wide 5 trivial rfl mb w)

theorem prim_ok : ∀ f p, prim f = some p → FnOk P f p := by
  intro f p h
  unfold prim at h
  have step : ∀ {n : Nat} {q : PrimA} {r : Option PrimA}, (bif Nat.beq f n then some q else r) = some p → (f = n ∧ q = p) ∨ r = some p := by
    intro n q r h
    cases hb : Nat.beq f n with
    | true => rw [hb, cond_true] at h; cases h; exact .inl ⟨beqT hb, rfl⟩
    | false => rw [hb, cond_false] at h; exact .inr h
  rcases step h with ⟨rfl, rfl⟩ | h
  · exact primClone_ok Tryz.func284 (by kernel_rfl) (by kernel_rfl) (by kernel_rfl) (by kernel_rfl)
  rcases step h with ⟨rfl, rfl⟩ | h
  · exact primCnt_ok Tryz.func293 (by kernel_rfl) (by kernel_rfl) (by kernel_rfl) (by kernel_rfl)
  rcases step h with ⟨rfl, rfl⟩ | h
  · exact primIdx_ok Tryz.func335 (by kernel_rfl) (by kernel_rfl) (by kernel_rfl) (by kernel_rfl)
  rcases step h with ⟨rfl, rfl⟩ | h
  · exact primExpand_ok (enters_of Tryz.func368 (by kernel_rfl) rfl) fun l o w h0 h1 h2 => Tryz.Expand_plain l o h0 h1 h2 w
  rcases step h with ⟨rfl, rfl⟩ | h
  · exact primKeys_ok (enters_of Tryz.func62 (by kernel_rfl) rfl) keysA_at
  rcases step h with ⟨rfl, rfl⟩ | h
  · exact primKeys_ok (enters_of Tryz.func63 (by kernel_rfl) rfl) keysB_at
  rcases step h with ⟨rfl, rfl⟩ | h
  · exact primKeys_ok (enters_of Tryz.func67 (by kernel_rfl) rfl) keysC_at
  rcases step h with ⟨rfl, rfl⟩ | h
  · refine primSorted_ok (R0 := Tryz.blind) Tryz.underlying3 (fun _ => rfl) (enters_of Tryz.func61 (by kernel_rfl) rfl) fun g hg Bm b nn D0 w h1 h2 h3 h4 h5 => ?_
    simp only [List.mem_cons, List.mem_nil_iff, or_false] at hg
    rcases hg with rfl | rfl | rfl
    · exact Tryz.sortedA_at Bm b nn D0 w h1 h2 h3 h4 h5
    · exact Tryz.sortedB_at Bm b nn D0 w h1 h2 h3 h4 h5
    · exact Tryz.sortedC_at Bm b nn D0 w h1 h2 h3 h4 h5
  rcases step h with ⟨rfl, rfl⟩ | h
  · exact primBack_ok (enters_of Tryz.func168 (by kernel_rfl) rfl) Tryz.Backward_at
  · cases h

theorem bk_ok : ∀ f, bk f = true → BackOk P f := by
  intro f h
  have := beqT h
  subst this
  refine ⟨enters_of Tryz.func246 (by kernel_rfl) rfl, fun l Bs len hlen J h0 hY W hW => ?_⟩
  exact Tryz.backward_in (Fz none) 0 trivial rfl (fun h => by cases h) l Bs len hlen J h0 hY W hW

theorem follows : P.follows .mixedOrders = true := by kernel_rfl
theorem call_ok (F n : Nat) : CallOk P (callB E prim bk (drawA E) F n) := callB_sound E_ok bk_ok prim_ok (fun call hc => drawA_ok E_ok hc follows) n
end Go.Cl.Wf
