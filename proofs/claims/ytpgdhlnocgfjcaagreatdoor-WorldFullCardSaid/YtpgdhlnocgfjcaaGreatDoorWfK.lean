/- WorldFull: for every input the law returns true, and each argument reads behind the call as it read before (the row), over the variables laid as the program's text lays them (the card). -/
import Derived.Test.YtpgdhlnocgfjcaaGreatDoorWfJ
import Derived.Test.YtpgdhlnocgfjcaaGreatDoorWfL
import Derived.Test.YtpgdhlnocgfjcaaGreatDoorRows
import Derived.Test.YtpgdhlnocgfjcaaGreatDoorTie
import Derived.Test.YtpgdhlnocgfjcaaGreatDoorCards
import Derived.ProofKit
import Derived.Lay
import Derived.LaidOnce
import Derived.SevenTiedAt
namespace Go.Proofs.YtpgdhlnocgfjcaaGreatDoor
open Go.ChangeShapes Go.WideShapes Go.ChangeAt Go.RowKit

theorem own : ownKnob Tryz.prog.godebug = none := by kernel_rfl
theorem laidOut : laidOutB Tryz.prog = true := by kernel_rfl

/-- A cell that fits is one cell. -/
theorem one_of_cell {P : Program} {w : World} {r : Reach} {base : Nat} {t : TypeId} {v : Value} (h : Cell.okWide P w r base t v) : v.oneCell' = true := by
  cases v <;> first | rfl | (exfalso; unfold Cell.okWide Cell.ok at h; generalize P.underlying t = u at h; cases u with | none => exact h | some d => cases d <;> exact h)

theorem one_of_row {P : Program} {w : World} {r : Reach} {base : Nat} {t : TypeId} {cs : Array Value} (h : Row.okWide P w r base t cs) : ∀ u ∈ cs.toList, u.oneCell' = true := by
  obtain ⟨ts, _, _, h⟩ := h
  intro u hu
  obtain ⟨i, hi⟩ := List.getElem?_of_mem hu
  obtain ⟨_, _, hc⟩ := h i u (by simpa using hi)
  exact one_of_cell hc

theorem open_struct {P : Program} {w : World} {r : Reach} {base : Nat} {t : TypeId} {v : Value} {fs : Array Field} (ht : P.underlying t = some (.struct fs)) (h : Value.okWide P w r base t v) :
    ∃ cs, v = .agg cs ∧ cs.size = P.cellsOf t ∧ ∀ u ∈ cs.toList, u.oneCell' = true := by
  unfold Value.okWide at h
  rw [ht] at h
  obtain ⟨cs, e, hs, hr⟩ := h
  exact ⟨cs, e, hs, one_of_row hr⟩

def laid : List (String × DataW Unit) := [("unicode/utf8.acceptRanges", Rows.laid_unicode_utf8_acceptRanges), ("unicode/utf8.first", Rows.laid_unicode_utf8_first)]

set_option maxRecDepth 100000 in
theorem lifted (os : Os) (started : os.Started) (H : Type) (enc : TypeId × Value → H) :
    ReturnsInHanded {} Tryz.checked os 3 .any (fun w args => (Rows.worldFullSpec.pre enc Tryz.prog Tryz.f3 [] false w args ∧ laidMetH Tryz.prog laid w) ∧ sizedMet enc Tryz.prog Tryz.f3 (OpenSpec.ofChange Rows.worldFullSpec) false w args)
      (Rows.worldFullSpec.post enc Tryz.prog Tryz.f3 false true false false) := by
  refine returnsInHanded_of_change_and (C := Tryz.checked) (X := fun w _ => laidMetH Tryz.prog laid w) (fun _ _ _ hh h => h.of_heap hh) own started (by kernel_rfl) Tryz.func3
    (ChangeSpec.witness_shaped (enc := enc) (C := Tryz.checked) (os := os) (X := fun w _ => laidMetH Tryz.prog laid w) false (World.laidAll Tryz.prog os laid)
      #[.agg #[.slice none 0 0, .slice none 0 0, .slice none 0 0, .bool false], .int .u8 0, .agg #[.int .i64 0, .string ⟨#[]⟩, .string ⟨#[]⟩, .slice none 0 0, .int .i64 0, .int .i64 0, .int .i64 0]] 8 (World.laidAll_os _ _ _)
      (World.shaped_of_ZipB (by kernel_rfl) (by kernel_rfl)) (by kernel_rfl) (by kernel_rfl) (by kernel_rfl)
      (by rw [MakeChecks.laidMetH_plain _ _ _ (by kernel_rfl)]; exact laidMet_laidAll _ (by kernel_rfl) (by kernel_rfl))) ?_
  intro W base args ds gs before hval0 hW _ _ _ _
  have hval : ∀ (j : Nat) t v, Tryz.f3.params[j]? = some t → args[j]? = some v → Value.okWide Tryz.prog W .any base t v := hval0
  have hW' := hW
  obtain ⟨p, q, hA0, hV, rfl, hfz, hnd⟩ := hW
  have hA : DataW.TrodAll enc Tryz.prog W 0 (fun _ => true) true Tryz.f3.params.toList args.toList ds p := hA0
  rw [Tryz.params3] at hA hval
  obtain ⟨v0, v1, v2, d0, d1, d2, p0, p1, p2, rfl, rfl, rfl, h0, h1, h2⟩ := trodAll_three hA
  obtain ⟨rfl, rfl⟩ := trodVars_none hV
  obtain ⟨cs0, rfl, z0, o0⟩ := open_struct Tryz.underlying28 (hval 0 28 v0 rfl rfl)
  obtain ⟨cs2, rfl, z2, o2⟩ := open_struct Tryz.underlying32 (hval 2 32 v2 rfl rfl)
  obtain ⟨x, rfl, rfl, rfl, wx⟩ := open_int Tryz.underlying5 (hval 1 5 v1 rfl rfl) h1
  clear hA0 hval0 hA hV hnd hfz
  have hx : 0 ≤ x ∧ x < 256 := by
    have : 0 ≤ x ∧ x ≤ 255 := by simpa [Lit.wf, IntKind.min, IntKind.max, IntKind.signed, IntKind.bits] using wx
    omega
  obtain ⟨n, rfl⟩ := Int.eq_ofNat_of_zero_le hx.1
  have s0 : cs0.size = 4 := z0.trans (by kernel_rfl)
  have s2 : cs2.size = 7 := z2.trans (by kernel_rfl)
  simp only [List.append_nil] at hW'
  have hlt0 : ∀ x ∈ p0, x.block < W.heap.size := fun x hx => by simpa using hW'.lt x (by simp [hx])
  have hlt2 : ∀ x ∈ p2, x.block < W.heap.size := fun x hx => by simpa using hW'.lt x (by simp [hx])
  refine (Go.Cl.Wf.full cs0 cs2 n (by omega) s0 s2 o0 o2 W).mono fun e W' ⟨he, hb⟩ => ?_
  subst he
  exact ⟨_, rfl, _, _, _, [], _, [], hW', trodAll_mk1 (shut_bool Tryz.underlying4 _),
    trodAll_mk3 (Below.trod laidOut (by kernel_rfl) (of_decide_eq_true (by kernel_rfl)) h0 hb hlt0) (shut_int Tryz.underlying5 wx) (Below.trod laidOut (by kernel_rfl) (of_decide_eq_true (by kernel_rfl)) h2 hb hlt2),
    rfl, hb.frame _, fun h => by cases h⟩

theorem worldFull_holds : Rows.WorldFullSaid :=
  OpenClaim.holds_of_wide 3 Tryz.f3 rfl rfl rfl rfl rfl rfl rfl ⟨rfl, rfl, rfl, rfl, rfl⟩ rfl rfl rfl rfl rfl fact1 Tryz.func3 jf_all
    fact4 fact3 (fun os started H enc _ => lifted os started H enc)

theorem worldFull_card_holds : Rows.WorldFullCardSaid :=
  Claim7.holds_tied_plain_at .later [] [.data, .pinned] true (true, "9f2b51f71e361839e26d95db4e46afa72a286fdc483d55d6275d595fa51d900f") true
    worldFull_holds (fun _ h => by cases h) fact5 (fun _ h => by cases h) worldFull_row_tie rfl ⟨rfl, rfl⟩ fact9 rfl
    (fun f fn hf hfn => by
      obtain rfl : f = 3 := Option.some.inj (fact1.symm.trans hf) |>.symm
      obtain rfl : fn = Tryz.f3 := (Option.some.inj (Tryz.func3.symm.trans hfn)).symm
      exact ⟨fact7, fun j t ht => by
        rw [Tryz.params3] at ht
        have hm : t ∈ [28, 5, 32] := by simpa using Array.mem_of_getElem? ht
        exact (show Tryz.prog.wantsStandIn t = false by simpa using List.all_eq_true.1 fact8 t hm)⟩)
    fact6
#print axioms worldFull_card_holds
end Go.Proofs.YtpgdhlnocgfjcaaGreatDoor
