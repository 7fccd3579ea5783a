/- slices.Sorted(maps.Keys(m)) at keys that are ints: the shelf's contracts, laid at this program. -/
import Derived.Shelf.SlIterI.Nil
import Derived.Shelf.SortM.Plain
import Derived.Shelf.SortM.SortNone
import Derived.Test.YtpgdhlnocgfjcaaGreatDoorProg
namespace Go.Proofs
open Go.RowKit Go.Maps Go.Sort Go.Shelf
def Tryz.keysA_ren : Go.Shelf.Ren := ⟨fun | 7 => 62 | 10 => 123 | n => n, fun | 23 => 79 | 26 => 3 | 3 => 194 | 28 => 191 | 0 => 0 | 27 => 190 | 33 => 302 | 4 => 4 | n => n, fun | n => n⟩
theorem Tryz.keysA : Go.Proofs.SlLaysZI.n7 Tryz.prog Tryz.keysA_ren := {
  mixed := by kernel_rfl
  f7 := ⟨Tryz.f62.name, by decide, Tryz.func62.trans (congrArg some (by kernel_rfl))⟩
  f10 := ⟨Tryz.f123.name, by decide, Tryz.func123.trans (congrArg some (by kernel_rfl))⟩
  t0 := Tryz.underlying0
  a0 := Tryz.isAgg0
  z0 := Tryz.sizeOf0
  v0 := Tryz.zeroValue0
  t4 := Tryz.underlying4
  a4 := Tryz.isAgg4
  z4 := Tryz.sizeOf4
  v4 := Tryz.zeroValue4
  t23 := Tryz.underlying79
  a23 := Tryz.isAgg79
  z23 := Tryz.sizeOf79
  v23 := Tryz.zeroValue79
  t26 := Tryz.underlying3
  a26 := Tryz.isAgg3
  z26 := Tryz.sizeOf3
  v26 := Tryz.zeroValue3
  t27 := Tryz.underlying190
  a27 := Tryz.isAgg190
  z27 := Tryz.sizeOf190
  v27 := Tryz.zeroValue190
  t28 := Tryz.underlying191
  a28 := Tryz.isAgg191
  z28 := Tryz.sizeOf191
  v28 := Tryz.zeroValue191
  t33 := Tryz.underlying302
  a33 := Tryz.isAgg302
  z33 := Tryz.sizeOf302
  v33 := Tryz.zeroValue302 }
def Tryz.keysB_ren : Go.Shelf.Ren := ⟨fun | 7 => 63 | 10 => 124 | n => n, fun | 23 => 75 | 26 => 3 | 3 => 168 | 28 => 191 | 0 => 0 | 27 => 190 | 33 => 302 | 4 => 4 | n => n, fun | n => n⟩
theorem Tryz.keysB : Go.Proofs.SlLaysZI.n7 Tryz.prog Tryz.keysB_ren := {
  mixed := by kernel_rfl
  f7 := ⟨Tryz.f63.name, by decide, Tryz.func63.trans (congrArg some (by kernel_rfl))⟩
  f10 := ⟨Tryz.f124.name, by decide, Tryz.func124.trans (congrArg some (by kernel_rfl))⟩
  t0 := Tryz.underlying0
  a0 := Tryz.isAgg0
  z0 := Tryz.sizeOf0
  v0 := Tryz.zeroValue0
  t4 := Tryz.underlying4
  a4 := Tryz.isAgg4
  z4 := Tryz.sizeOf4
  v4 := Tryz.zeroValue4
  t23 := Tryz.underlying75
  a23 := Tryz.isAgg75
  z23 := Tryz.sizeOf75
  v23 := Tryz.zeroValue75
  t26 := Tryz.underlying3
  a26 := Tryz.isAgg3
  z26 := Tryz.sizeOf3
  v26 := Tryz.zeroValue3
  t27 := Tryz.underlying190
  a27 := Tryz.isAgg190
  z27 := Tryz.sizeOf190
  v27 := Tryz.zeroValue190
  t28 := Tryz.underlying191
  a28 := Tryz.isAgg191
  z28 := Tryz.sizeOf191
  v28 := Tryz.zeroValue191
  t33 := Tryz.underlying302
  a33 := Tryz.isAgg302
  z33 := Tryz.sizeOf302
  v33 := Tryz.zeroValue302 }
def Tryz.keysC_ren : Go.Shelf.Ren := ⟨fun | 7 => 67 | 10 => 127 | n => n, fun | 23 => 214 | 26 => 3 | 3 => 221 | 28 => 191 | 0 => 0 | 27 => 190 | 33 => 302 | 4 => 4 | n => n, fun | n => n⟩
theorem Tryz.keysC : Go.Proofs.SlLaysZI.n7 Tryz.prog Tryz.keysC_ren := {
  mixed := by kernel_rfl
  f7 := ⟨Tryz.f67.name, by decide, Tryz.func67.trans (congrArg some (by kernel_rfl))⟩
  f10 := ⟨Tryz.f127.name, by decide, Tryz.func127.trans (congrArg some (by kernel_rfl))⟩
  t0 := Tryz.underlying0
  a0 := Tryz.isAgg0
  z0 := Tryz.sizeOf0
  v0 := Tryz.zeroValue0
  t4 := Tryz.underlying4
  a4 := Tryz.isAgg4
  z4 := Tryz.sizeOf4
  v4 := Tryz.zeroValue4
  t23 := Tryz.underlying214
  a23 := Tryz.isAgg214
  z23 := Tryz.sizeOf214
  v23 := Tryz.zeroValue214
  t26 := Tryz.underlying3
  a26 := Tryz.isAgg3
  z26 := Tryz.sizeOf3
  v26 := Tryz.zeroValue3
  t27 := Tryz.underlying190
  a27 := Tryz.isAgg190
  z27 := Tryz.sizeOf190
  v27 := Tryz.zeroValue190
  t28 := Tryz.underlying191
  a28 := Tryz.isAgg191
  z28 := Tryz.sizeOf191
  v28 := Tryz.zeroValue191
  t33 := Tryz.underlying302
  a33 := Tryz.isAgg302
  z33 := Tryz.sizeOf302
  v33 := Tryz.zeroValue302 }
def Tryz.sortedA_ren : Go.Shelf.Ren := ⟨fun | 6 => 61 | 8 => 121 | 9 => 122 | 11 => 197 | 13 => 163 | 12 => 198 | 23 => 238 | 24 => 239 | 14 => 275 | 15 => 276 | 16 => 277 | 17 => 278 | 18 => 279 | 19 => 280 | 20 => 281 | 21 => 282 | 22 => 283 | 25 => 331 | 26 => 296 | 27 => 297 | 28 => 332 | 29 => 333 | 30 => 334 | 31 => 365 | n => n, fun | 26 => 3 | 28 => 191 | 24 => 37 | 0 => 0 | 3 => 3 | 37 => 319 | 48 => 318 | 50 => 256 | 4 => 4 | 40 => 415 | 39 => 414 | 45 => 176 | 5 => 5 | 9 => 9 | 51 => 476 | 55 => 388 | 57 => 507 | 58 => 372 | 33 => 302 | n => n, fun | n => n⟩
theorem Tryz.sortedA : Go.Proofs.SlLaysZI.n6 Tryz.prog Tryz.sortedA_ren := {
  mixed := by kernel_rfl
  f6 := ⟨Tryz.f61.name, by decide, Tryz.func61.trans (congrArg some (by kernel_rfl))⟩
  f8 := ⟨Tryz.f121.name, by decide, Tryz.func121.trans (congrArg some (by kernel_rfl))⟩
  f11 := ⟨Tryz.f197.name, by decide, Tryz.func197.trans (congrArg some (by kernel_rfl))⟩
  t0 := Tryz.underlying0
  a0 := Tryz.isAgg0
  z0 := Tryz.sizeOf0
  v0 := Tryz.zeroValue0
  t24 := Tryz.underlying37
  a24 := Tryz.isAgg37
  z24 := Tryz.sizeOf37
  v24 := Tryz.zeroValue37
  t26 := Tryz.underlying3
  a26 := Tryz.isAgg3
  z26 := Tryz.sizeOf3
  v26 := Tryz.zeroValue3
  t28 := Tryz.underlying191
  a28 := Tryz.isAgg191
  z28 := Tryz.sizeOf191
  v28 := Tryz.zeroValue191
  i26 := by kernel_rfl }
def Tryz.sortA_ren : Go.Shelf.Ren := ⟨fun | 5 => 122 | 8 => 163 | 7 => 198 | 19 => 238 | 20 => 239 | 10 => 275 | 11 => 276 | 12 => 277 | 13 => 278 | 14 => 279 | 15 => 280 | 16 => 281 | 17 => 282 | 18 => 283 | 30 => 331 | 31 => 296 | 32 => 297 | 33 => 332 | 34 => 333 | 35 => 334 | 40 => 365 | n => n, fun | 23 => 37 | 25 => 3 | 3 => 3 | 32 => 319 | 22 => 37 | 0 => 0 | 44 => 318 | 46 => 256 | 4 => 4 | 36 => 415 | 35 => 414 | 41 => 176 | 5 => 5 | 9 => 9 | 53 => 476 | 57 => 388 | 63 => 507 | 64 => 372 | n => n, fun | n => n⟩
theorem Tryz.sortA : Go.Proofs.SlLaysM.n5 Tryz.prog Tryz.sortA_ren := {
  mixed := by kernel_rfl
  f5 := ⟨Tryz.f122.name, by decide, Tryz.func122.trans (congrArg some (by kernel_rfl))⟩
  f7 := ⟨Tryz.f198.name, by decide, Tryz.func198.trans (congrArg some (by kernel_rfl))⟩
  f8 := Tryz.func163.trans (congrArg some (by kernel_rfl))
  f10 := ⟨Tryz.f275.name, by decide, Tryz.func275.trans (congrArg some (by kernel_rfl))⟩
  f11 := ⟨Tryz.f276.name, by decide, Tryz.func276.trans (congrArg some (by kernel_rfl))⟩
  f12 := ⟨Tryz.f277.name, by decide, Tryz.func277.trans (congrArg some (by kernel_rfl))⟩
  f13 := ⟨Tryz.f278.name, by decide, Tryz.func278.trans (congrArg some (by kernel_rfl))⟩
  f14 := ⟨Tryz.f279.name, by decide, Tryz.func279.trans (congrArg some (by kernel_rfl))⟩
  f15 := ⟨Tryz.f280.name, by decide, Tryz.func280.trans (congrArg some (by kernel_rfl))⟩
  f16 := ⟨Tryz.f281.name, by decide, Tryz.func281.trans (congrArg some (by kernel_rfl))⟩
  f17 := ⟨Tryz.f282.name, by decide, Tryz.func282.trans (congrArg some (by kernel_rfl))⟩
  f18 := ⟨Tryz.f283.name, by decide, Tryz.func283.trans (congrArg some (by kernel_rfl))⟩
  f19 := Tryz.func238.trans (congrArg some (by kernel_rfl))
  f20 := Tryz.func239.trans (congrArg some (by kernel_rfl))
  f30 := ⟨Tryz.f331.name, by decide, Tryz.func331.trans (congrArg some (by kernel_rfl))⟩
  f31 := Tryz.func296.trans (congrArg some (by kernel_rfl))
  f32 := Tryz.func297.trans (congrArg some (by kernel_rfl))
  f33 := ⟨Tryz.f332.name, by decide, Tryz.func332.trans (congrArg some (by kernel_rfl))⟩
  f34 := ⟨Tryz.f333.name, by decide, Tryz.func333.trans (congrArg some (by kernel_rfl))⟩
  f35 := ⟨Tryz.f334.name, by decide, Tryz.func334.trans (congrArg some (by kernel_rfl))⟩
  f40 := ⟨Tryz.f365.name, by decide, Tryz.func365.trans (congrArg some (by kernel_rfl))⟩
  t0 := Tryz.underlying0
  a0 := Tryz.isAgg0
  z0 := Tryz.sizeOf0
  v0 := Tryz.zeroValue0
  t3 := Tryz.underlying3
  a3 := Tryz.isAgg3
  z3 := Tryz.sizeOf3
  v3 := Tryz.zeroValue3
  t4 := Tryz.underlying4
  a4 := Tryz.isAgg4
  z4 := Tryz.sizeOf4
  v4 := Tryz.zeroValue4
  t5 := Tryz.underlying5
  a5 := Tryz.isAgg5
  z5 := Tryz.sizeOf5
  v5 := Tryz.zeroValue5
  t9 := Tryz.underlying9
  a9 := Tryz.isAgg9
  z9 := Tryz.sizeOf9
  v9 := Tryz.zeroValue9
  t22 := Tryz.underlying37
  a22 := Tryz.isAgg37
  z22 := Tryz.sizeOf37
  v22 := Tryz.zeroValue37
  t23 := Tryz.underlying37
  a23 := Tryz.isAgg37
  z23 := Tryz.sizeOf37
  v23 := Tryz.zeroValue37
  t25 := Tryz.underlying3
  a25 := Tryz.isAgg3
  z25 := Tryz.sizeOf3
  v25 := Tryz.zeroValue3
  t32 := Tryz.underlying319
  a32 := Tryz.isAgg319
  z32 := Tryz.sizeOf319
  v32 := Tryz.zeroValue319
  t35 := Tryz.underlying414
  a35 := Tryz.isAgg414
  z35 := Tryz.sizeOf414
  v35 := Tryz.zeroValue414
  t36 := Tryz.underlying415
  a36 := Tryz.isAgg415
  z36 := Tryz.sizeOf415
  v36 := Tryz.zeroValue415
  t41 := Tryz.underlying176
  a41 := Tryz.isAgg176
  z41 := Tryz.sizeOf176
  v41 := Tryz.zeroValue176
  t44 := Tryz.underlying318
  a44 := Tryz.isAgg318
  z44 := Tryz.sizeOf318
  v44 := Tryz.zeroValue318
  t46 := Tryz.underlying256
  a46 := Tryz.isAgg256
  z46 := Tryz.sizeOf256
  v46 := Tryz.zeroValue256
  t53 := Tryz.underlying476
  a53 := Tryz.isAgg476
  z53 := Tryz.sizeOf476
  v53 := Tryz.zeroValue476
  t57 := Tryz.underlying388
  a57 := Tryz.isAgg388
  z57 := Tryz.sizeOf388
  v57 := Tryz.zeroValue388
  t63 := Tryz.underlying507
  a63 := Tryz.isAgg507
  z63 := Tryz.sizeOf507
  v63 := Tryz.zeroValue507
  t64 := Tryz.underlying372
  a64 := Tryz.isAgg372
  z64 := Tryz.sizeOf372
  v64 := Tryz.zeroValue372 }

/-- slices.Sort's two contracts at this dump, at the fence that asks nothing. -/
theorem Tryz.sortsA (m : Nat) : AnyZI.SortsIn Tryz.prog Tryz.sortedA_ren Fence.wide m :=
  ⟨fun blk off cap ss W hH hblk hsz => callsIn_wide.2 (AnyM.slices_Sort_int Tryz.sortA blk off cap ss W hH hblk hsz),
   fun p cap W => callsIn_wide.2 (AnyM.slices_Sort_int_none Tryz.sortA p cap W)⟩
/-- An element reads as nothing. -/
def Tryz.blind : Value → Option (DataW Unit × List MemPlace) := fun _ => some (.lit (.bool true), [])

set_option maxHeartbeats 1000000 in
theorem Tryz.sortedA_at (Bm b nn : Nat) (D0 : DataW Unit) (w : World) (hBm : Bm < w.heap.size) (hm : w.cell? ⟨Bm, 0, none⟩ = some (.map (some b))) (hown : w.ownsMap Tryz.prog 3 Tryz.blind b nn D0) (hmax : Maps.size D0 ≤ maxLen) (hbytes : Maps.size D0 * 8 ≤ 140737488355328) :
    Calls Tryz.prog 61 #[.func (.func 123) #[] #[.pointer (some ⟨Bm, 0, none⟩)]] w fun e w' => ∃ (v : Value) (ss : List Int), e = .returned v ∧ ss.Perm (intKeys D0) ∧
      w'.ownsRow w.heap.size 3 1 v ss.length ((ss.mergeSort (fun x y => decide (x ≤ y))).map encZ) ∧ (v = .slice none 0 0 ↔ ss = []) ∧ Below w.heap.size w w' := by
  refine (callsIn_wide (n := 5)).1 ?_
  have hseq : SeqGives Fence.wide 2 Tryz.prog 123 #[.pointer (some ⟨Bm, 0, none⟩)] encZ (fun ss => ss.Perm (intKeys D0)) (Maps.size D0) w :=
    AnyZI.keys_gives (ρ := Tryz.keysA_ren) { Tryz.keysA with } Fence.wide _ trivial rfl (by omega) Bm b nn D0 w hBm hm hown
  exact AnyZI.sorted_in Tryz.sortedA Fence.wide 5 trivial trivial trivial trivial rfl (by omega) (Tryz.sortsA _) (enters_of Tryz.func122 (by kernel_rfl) rfl) 123 #[.pointer (some ⟨Bm, 0, none⟩)] trivial (enters_of Tryz.func123 (by kernel_rfl) rfl) _ _ hmax hbytes _ hseq

set_option maxHeartbeats 1000000 in
theorem Tryz.sortedB_at (Bm b nn : Nat) (D0 : DataW Unit) (w : World) (hBm : Bm < w.heap.size) (hm : w.cell? ⟨Bm, 0, none⟩ = some (.map (some b))) (hown : w.ownsMap Tryz.prog 3 Tryz.blind b nn D0) (hmax : Maps.size D0 ≤ maxLen) (hbytes : Maps.size D0 * 8 ≤ 140737488355328) :
    Calls Tryz.prog 61 #[.func (.func 124) #[] #[.pointer (some ⟨Bm, 0, none⟩)]] w fun e w' => ∃ (v : Value) (ss : List Int), e = .returned v ∧ ss.Perm (intKeys D0) ∧
      w'.ownsRow w.heap.size 3 1 v ss.length ((ss.mergeSort (fun x y => decide (x ≤ y))).map encZ) ∧ (v = .slice none 0 0 ↔ ss = []) ∧ Below w.heap.size w w' := by
  refine (callsIn_wide (n := 5)).1 ?_
  have hseq : SeqGives Fence.wide 2 Tryz.prog 124 #[.pointer (some ⟨Bm, 0, none⟩)] encZ (fun ss => ss.Perm (intKeys D0)) (Maps.size D0) w :=
    AnyZI.keys_gives (ρ := Tryz.keysB_ren) { Tryz.keysB with } Fence.wide _ trivial rfl (by omega) Bm b nn D0 w hBm hm hown
  exact AnyZI.sorted_in Tryz.sortedA Fence.wide 5 trivial trivial trivial trivial rfl (by omega) (Tryz.sortsA _) (enters_of Tryz.func122 (by kernel_rfl) rfl) 124 #[.pointer (some ⟨Bm, 0, none⟩)] trivial (enters_of Tryz.func124 (by kernel_rfl) rfl) _ _ hmax hbytes _ hseq

set_option maxHeartbeats 1000000 in
theorem Tryz.sortedC_at (Bm b nn : Nat) (D0 : DataW Unit) (w : World) (hBm : Bm < w.heap.size) (hm : w.cell? ⟨Bm, 0, none⟩ = some (.map (some b))) (hown : w.ownsMap Tryz.prog 3 Tryz.blind b nn D0) (hmax : Maps.size D0 ≤ maxLen) (hbytes : Maps.size D0 * 8 ≤ 140737488355328) :
    Calls Tryz.prog 61 #[.func (.func 127) #[] #[.pointer (some ⟨Bm, 0, none⟩)]] w fun e w' => ∃ (v : Value) (ss : List Int), e = .returned v ∧ ss.Perm (intKeys D0) ∧
      w'.ownsRow w.heap.size 3 1 v ss.length ((ss.mergeSort (fun x y => decide (x ≤ y))).map encZ) ∧ (v = .slice none 0 0 ↔ ss = []) ∧ Below w.heap.size w w' := by
  refine (callsIn_wide (n := 5)).1 ?_
  have hseq : SeqGives Fence.wide 2 Tryz.prog 127 #[.pointer (some ⟨Bm, 0, none⟩)] encZ (fun ss => ss.Perm (intKeys D0)) (Maps.size D0) w :=
    AnyZI.keys_gives (ρ := Tryz.keysC_ren) { Tryz.keysC with } Fence.wide _ trivial rfl (by omega) Bm b nn D0 w hBm hm hown
  exact AnyZI.sorted_in Tryz.sortedA Fence.wide 5 trivial trivial trivial trivial rfl (by omega) (Tryz.sortsA _) (enters_of Tryz.func122 (by kernel_rfl) rfl) 127 #[.pointer (some ⟨Bm, 0, none⟩)] trivial (enters_of Tryz.func127 (by kernel_rfl) rfl) _ _ hmax hbytes _ hseq
end Go.Proofs
