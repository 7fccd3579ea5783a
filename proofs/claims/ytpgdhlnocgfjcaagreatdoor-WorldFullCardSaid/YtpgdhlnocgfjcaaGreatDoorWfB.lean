/- token.Expand, where nothing is to be put in. -/
import Derived.Test.YtpgdhlnocgfjcaaGreatDoorWfA
namespace Go.Proofs
open Go.Shelf Go.RowKit

theorem Tryz.fresh_builder (w : World) : Lib.BuilderAt 542 5 w.heap.size w.heap.size (.pointer none) [] (w.alloc (.cells #[.pointer none, .slice none 0 0] 542)) := by
  rcases Lib.fresh_isBuilder 542 5 w with h | h
  · exact h
  · have := h.cell0
    rw [Lib.cell_of_heap (Go.heap_alloc_new w _)] at this
    cases this

set_option maxHeartbeats 2000000 in
set_option maxRecDepth 100000 in
theorem Tryz.Expand_plain (l : List UInt8) (o : Value) (h0 : l ≠ []) (hlen : l.length ≤ 200) (h : Lib.indexByte l 36 = -1) (w : World) :
    Calls Tryz.prog 368 #[.string ⟨l.toArray⟩, o] w fun e w' => e = .returned (.tuple #[.string ⟨l.toArray⟩, .int .i64 0]) ∧ Below w.heap.size w w' := by
  have hsz : (⟨l.toArray⟩ : ByteArray).size = l.length := by simp [ByteArray.size]
  have c1 : ¬ ((⟨l.toArray⟩ : ByteArray).size : Int) > 200 := by rw [hsz]; omega
  have c2 : l.isEmpty = false := by
    cases l with
    | nil => exact absurd rfl h0
    | cons x l => rfl
  have hcells : Lib.strCells ⟨l.toArray⟩ = Lib.byteCells l := rfl
  have hcl : (Lib.byteCells l).length = l.length := Lib.byteCells_length l
  go_enter Tryz.func368, Tryz.ntmps368
  go_wp2
  refine wp_loop (fun a1 w1 => a1 = _ ∧ w1 = _) (fun _ _ => 0) ⟨rfl, rfl⟩ ?_
  rintro a1 w1 ⟨rfl, rfl⟩
  go_wp2_with (go_at_call 191; refine (Tryz.Cut_miss _ _ h _).mono ?_; rintro e w' ⟨rfl, rfl⟩)
  go_at_call 376
  refine (Tryz.WriteString_fresh w.heap.size w.heap.size _ _ (Tryz.fresh_builder w) (by rw [hsz]; omega) (by simp)).mono ?_
  rintro e w2 ⟨rfl, hb, hbl⟩
  rw [hcells] at hb
  go_wp2_with (first
    | (go_at_call 377; refine (Tryz.Builder_Len w.heap.size w.heap.size _ _ (.inr hb)).mono ?_; rintro e w' ⟨rfl, rfl⟩; rw [hcl])
    | (go_at_call 378; refine (Tryz.Builder_String w.heap.size w.heap.size l _ (.inr hb) h0).mono ?_; rintro e w3 ⟨rfl, hbl3⟩))
  go_ret2
  exact ⟨rfl, (((Below.refl _ w).alloc (Nat.le_refl _) _).trans hbl).trans hbl3⟩
end Go.Proofs
