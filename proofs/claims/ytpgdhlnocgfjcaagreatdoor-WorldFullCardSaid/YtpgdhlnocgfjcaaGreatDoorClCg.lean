/- Each operation is sound: addresses, parts, slices. -/
import Derived.Test.YtpgdhlnocgfjcaaGreatDoorClCf
set_option linter.unusedSimpArgs false
set_option linter.unusedVariables false
set_option linter.unusedSectionVars false
namespace Go.Cl

theorem tdOf_st {d : TypeDesc} {fs : List (Nat × Nat)} (h : tdOf d = .st fs) : ∃ fields, d = .struct fields ∧ fs = fields.toList.map fun f => (f.offset, f.type) := by
  cases d <;> simp_all [tdOf]
theorem tdOf_sl {d : TypeDesc} {e : Nat} (h : tdOf d = .sl e) : d = .slice e := by cases d <;> simp_all [tdOf]
theorem tdOf_arr {d : TypeDesc} {n e : Nat} (h : tdOf d = .arr n e) : d = .array n e := by cases d <;> simp_all [tdOf]
theorem tdOf_int {d : TypeDesc} {k : IntKind} (h : tdOf d = .int k) : d = .int k := by cases d <;> simp_all [tdOf]
theorem tdOf_str {d : TypeDesc} (h : tdOf d = .str) : d = .string := by cases d <;> simp_all [tdOf]
theorem tdOf_bool {d : TypeDesc} (h : tdOf d = .bool) : d = .bool := by cases d <;> simp_all [tdOf]
theorem tdOf_map {d : TypeDesc} {k e : Nat} (h : tdOf d = .map k e) : d = .map k e := by cases d <;> simp_all [tdOf]
theorem tdOf_ptr {d : TypeDesc} {e : Nat} (h : tdOf d = .ptr e) : d = .pointer e := by cases d <;> simp_all [tdOf]
theorem tdOf_fn {d : TypeDesc} (h : tdOf d = .fn) : ∃ a b c, d = .func a b c := by cases d <;> simp_all [tdOf]

theorem und_of {P : Program} {t : Nat} {ti : TI} (h : tiOf P t = some ti) : ∃ d, P.underlying t = some d ∧ ti.td = tdOf d := by
  obtain ⟨i, d, h1, h2, h3, h4, h5, h6⟩ := tiOf_some h
  exact ⟨d, h2, h6⟩
theorem und_st {P : Program} {t : Nat} {ti : TI} (h : tiOf P t = some ti) {fs : List (Nat × Nat)} (e : ti.td = .st fs) : ∃ fields, P.underlying t = some (.struct fields) ∧ fs = fields.toList.map fun f => (f.offset, f.type) := by
  obtain ⟨d, h1, h2⟩ := und_of h
  obtain ⟨fields, rfl, h3⟩ := tdOf_st (h2.symm.trans e)
  exact ⟨fields, h1, h3⟩
theorem und_sl {P : Program} {t : Nat} {ti : TI} (h : tiOf P t = some ti) {x : Nat} (e : ti.td = .sl x) : P.underlying t = some (.slice x) := by
  obtain ⟨d, h1, h2⟩ := und_of h; rw [h1, tdOf_sl (h2.symm.trans e)]
theorem und_arr {P : Program} {t : Nat} {ti : TI} (h : tiOf P t = some ti) {n x : Nat} (e : ti.td = .arr n x) : P.underlying t = some (.array n x) := by
  obtain ⟨d, h1, h2⟩ := und_of h; rw [h1, tdOf_arr (h2.symm.trans e)]
theorem und_int {P : Program} {t : Nat} {ti : TI} (h : tiOf P t = some ti) {k : IntKind} (e : ti.td = .int k) : P.underlying t = some (.int k) := by
  obtain ⟨d, h1, h2⟩ := und_of h; rw [h1, tdOf_int (h2.symm.trans e)]
theorem und_str {P : Program} {t : Nat} {ti : TI} (h : tiOf P t = some ti) (e : ti.td = .str) : P.underlying t = some .string := by
  obtain ⟨d, h1, h2⟩ := und_of h; rw [h1, tdOf_str (h2.symm.trans e)]
theorem und_bool {P : Program} {t : Nat} {ti : TI} (h : tiOf P t = some ti) (e : ti.td = .bool) : P.underlying t = some .bool := by
  obtain ⟨d, h1, h2⟩ := und_of h; rw [h1, tdOf_bool (h2.symm.trans e)]
theorem und_map {P : Program} {t : Nat} {ti : TI} (h : tiOf P t = some ti) {k x : Nat} (e : ti.td = .map k x) : P.underlying t = some (.map k x) := by
  obtain ⟨d, h1, h2⟩ := und_of h; rw [h1, tdOf_map (h2.symm.trans e)]
theorem und_ptr {P : Program} {t : Nat} {ti : TI} (h : tiOf P t = some ti) {x : Nat} (e : ti.td = .ptr x) : P.underlying t = some (.pointer x) := by
  obtain ⟨d, h1, h2⟩ := und_of h; rw [h1, tdOf_ptr (h2.symm.trans e)]
theorem und_fn {P : Program} {t : Nat} {ti : TI} (h : tiOf P t = some ti) (e : ti.td = .fn) : ∃ a b c, P.underlying t = some (.func a b c) := by
  obtain ⟨d, h1, h2⟩ := und_of h
  obtain ⟨a, b, c, rfl⟩ := tdOf_fn (h2.symm.trans e)
  exact ⟨a, b, c, h1⟩

section
variable {P : Program} {E : Env} (hE : E.Ok P) {ρ : Nat → Loc} {H : Heap} {U : Gh} {w : World}
include hE

theorem fieldOf_some {t f off : Nat} {fi : TI} (h : fieldOf E t f = some (off, fi)) : ∃ fields fld, P.underlying t = some (.struct fields) ∧ fields[f]? = some fld ∧ fld.offset = off ∧ tiOf P fld.type = some fi := by
  unfold fieldOf at h
  split at h
  · rename_i ti hti
    split at h
    · rename_i fs hfs
      split at h
      · rename_i off' ft hft
        split at h
        · rename_i fi' hfi
          cases h
          obtain ⟨fields, h1, h2⟩ := und_st (hE.ty _ _ hti) hfs
          subst h2
          rw [List.getElem?_map] at hft
          cases hc : fields.toList[f]? with
          | none => simp [hc] at hft
          | some fld =>
            simp only [hc, Option.map_some, Option.some.injEq, Prod.mk.injEq] at hft
            refine ⟨fields, fld, h1, by simpa using hc, hft.1, ?_⟩
            rw [hft.2]
            exact hE.ty _ _ hfi
        · cases h
      · cases h
    · cases h
  · cases h

theorem fieldAddr_sound {t f : Nat} {x y : AV} (h : fieldAddrA E t x f = some y) {v : Value} (hx : RV ρ H U w x v) : ∃ u, (Instr.fieldAt t v f).run P w = .ok u w ∧ RV ρ H U w y u := by
  unfold fieldAddrA at h
  split at h
  · rename_i off fi hf
    obtain ⟨fields, fld, h1, h2, h3, h4⟩ := fieldOf_some hE hf
    cases hb : Nat.beq fi.size 0 with
    | true => rw [hb, cond_true] at h; cases h
    | false =>
      rw [hb, cond_false] at h
      have hne : fi.size ≠ 0 := by intro e; rw [e] at hb; cases hb
      split at h
      · rename_i i r o
        cases h
        simp only [RV] at hx
        obtain ⟨hi, a, rfl, ha⟩ := hx
        refine ⟨.pointer (some (a.add off)), ?_, ?_⟩
        · simp [Instr.fieldAt, run_underlying h1, h2, Instr.sureAddr, fieldPlace, run_sizeOf' h4, hne, h3]
        · simp only [RV]
          refine ⟨hi, _, rfl, fun sz rs hg => ?_⟩
          rw [ha sz rs hg, add_none]
          simp [Nat.add_assoc]
      · rename_i row o
        cases hb2 : Nat.ble (o + off) row.length with
        | false => rw [hb2, cond_false] at h; cases h
        | true =>
          rw [hb2, cond_true] at h
          cases h
          simp only [RV] at hx
          obtain ⟨ho, b, o', rfl, k1, k2, k3⟩ := hx
          refine ⟨.pointer (some ((⟨b, o' + o, none⟩ : Addr).add off)), ?_, ?_⟩
          · simp [Instr.fieldAt, run_underlying h1, h2, Instr.sureAddr, fieldPlace, run_sizeOf' h4, hne, h3]
          · simp only [RV]
            exact ⟨bleT hb2, b, o', by rw [add_none]; simp [Nat.add_assoc], k1, k2, k3⟩
      · cases h
  · cases h

theorem RVs_sub {xs : List AV} {vs : List Value} (h : RVs ρ H U w xs vs) (o n : Nat) : RVs ρ H U w ((xs.drop o).take n) ((vs.drop o).take n) := by
  obtain ⟨h1, h2⟩ := RVs_iff.1 h
  refine RVs_iff.2 ⟨by simp [h1], fun j x hj => ?_⟩
  rw [List.getElem?_take] at hj ⊢
  split at hj
  · rw [List.getElem?_drop] at hj ⊢
    obtain ⟨v, hv⟩ := h2 _ x hj
    rename_i hlt
    exact ⟨v, by rw [if_pos hlt]; exact hv.1, hv.2⟩
  · cases hj

theorem part_sound {t : Nat} {ti : TI} (ht : tiOf P t = some ti) {cs : List AV} {us : Array Value} (h : RVs ρ H U w cs us.toList) {o : Nat} {y : AV} (hp : part ti cs o = some y) : ∃ u, (Go.part t us o).run P w = .ok u w ∧ RV ρ H U w y u := by
  unfold part at hp
  unfold Go.part
  cases hb : ti.isAgg with
  | false =>
    rw [hb, cond_false] at hp
    obtain ⟨v, hv, hx⟩ := (RVs_iff.1 h).2 o y hp
    have hv' : us[o]? = some v := by simpa using hv
    exact ⟨v, by simp [run_isAgg' ht, hb, hv'], hx⟩
  | true =>
    rw [hb, cond_true] at hp
    cases hta : takeAt cs o ti.size with
    | none => simp [hta] at hp
    | some ys =>
      simp only [hta, Option.map_some, Option.some.injEq] at hp
      obtain ⟨hle, rfl⟩ := takeAt_some hta
      refine ⟨.agg (us.extract o (o + ti.size)), by simp [run_isAgg' ht, hb, run_sizeOf' ht], ?_⟩
      subst hp
      simp only [RV]
      refine ⟨_, rfl, ?_⟩
      have := RVs_sub hE h o ti.size
      rw [show (us.extract o (o + ti.size)).toList = (us.toList.drop o).take ti.size by simp [List.extract_eq_take_drop]]
      exact this

theorem field_sound {t f : Nat} {x y : AV} (h : fieldA E t x f = some y) {v : Value} (hx : RV ρ H U w x v) : ∃ u, (Instr.field t v f).run P w = .ok u w ∧ RV ρ H U w y u := by
  unfold fieldA at h
  split at h
  · rename_i off fi cs hf
    obtain ⟨fields, fld, h1, h2, h3, h4⟩ := fieldOf_some hE hf
    simp only [RV] at hx
    obtain ⟨us, rfl, hr⟩ := hx
    obtain ⟨u, hu, hy⟩ := part_sound hE h4 hr h
    refine ⟨u, ?_, hy⟩
    simp [Instr.field, run_underlying h1, h2, asAgg, h3, hu]
  · cases h

theorem index_sound {t : Nat} {x ix y : AV} (h : indexA E t x ix = some y) {v iv : Value} (hx : RV ρ H U w x v) (hi : RV ρ H U w ix iv) : ∃ u, (Instr.index t v iv).run P w = .ok u w ∧ RV ρ H U w y u := by
  unfold indexA at h
  split at h
  · rename_i ti k i hti
    have ht := hE.ty _ _ hti
    simp only [RV] at hi
    subst hi
    split at h
    · rename_i s hd
      split at h
      · rename_i b hb
        cases h
        simp only [RV] at hx ⊢
        subst hx
        refine ⟨_, ?_, rfl⟩
        have hlt : i < s.length := (List.getElem?_eq_some_iff.1 hb).1
        have hb' : s[i] = b := (List.getElem?_eq_some_iff.1 hb).2
        have : (⟨s.toArray⟩ : ByteArray)[i]? = some b := by
          rw [getElem?_pos (⟨s.toArray⟩ : ByteArray) i (by simpa [ByteArray.size] using hlt)]
          congr 1
        simp [Instr.index, asIntOf, run_underlying (und_str ht hd), this]
      · cases h
    · rename_i n e cs hd
      split at h
      · rename_i ei hei
        cases hb : Nat.ble (i + 1) n with
        | false => rw [hb, cond_false] at h; cases h
        | true =>
          rw [hb, cond_true] at h
          have hlt : i < n := bleT hb
          simp only [RV] at hx
          obtain ⟨us, rfl, hr⟩ := hx
          obtain ⟨u, hu, hy⟩ := part_sound hE (hE.ty _ _ hei) hr h
          refine ⟨u, ?_, hy⟩
          have hc : (0 : Int) ≤ Int.ofNat i ∧ Int.ofNat i < (n : Int) := ⟨Int.natCast_nonneg i, by exact Int.ofNat_lt.2 hlt⟩
          simp [Instr.index, asIntOf, run_underlying (und_arr ht hd), hlt, run_sizeOf' (hE.ty _ _ hei), hu]
      · cases h
    · cases h
  · cases h

theorem indexAddr_sound {t : Nat} {x ix y : AV} (h : indexAddrA E t x ix H = some y) {v iv : Value} (hx : RV ρ H U w x v) (hi : RV ρ H U w ix iv) : ∃ u, (Instr.indexAt t v iv).run P w = .ok u w ∧ RV ρ H U w y u := by
  unfold indexAddrA at h
  split at h
  · rename_i ti k i hti
    have ht := hE.ty _ _ hti
    simp only [RV] at hi
    subst hi
    split at h
    · rename_i n e hd
      split at h
      · rename_i ei hei
        have hse := run_sizeOf' (hE.ty _ _ hei) w
        cases hb : Nat.ble (i + 1) n with
        | false => rw [hb, cond_false] at h; cases h
        | true =>
          rw [hb, cond_true] at h
          have hlt : i < n := bleT hb
          split at h
          · rename_i j r o
            cases h
            simp only [RV] at hx
            obtain ⟨hj, a, rfl, ha⟩ := hx
            refine ⟨.pointer (some (a.add (i * ei.size))), by simp [Instr.indexAt, asIntOf, run_underlying (und_arr ht hd), Instr.sureAddr, hlt, hse], ?_⟩
            simp only [RV]
            refine ⟨hj, _, rfl, fun sz rs hg => ?_⟩
            rw [ha sz rs hg, add_none]
            simp [Nat.add_assoc]
          · rename_i row o
            cases hb2 : Nat.ble (o + i * ei.size) row.length with
            | false => rw [hb2, cond_false] at h; cases h
            | true =>
              rw [hb2, cond_true] at h
              cases h
              simp only [RV] at hx
              obtain ⟨ho, b, o', rfl, k1, k2, k3⟩ := hx
              refine ⟨.pointer (some ((⟨b, o' + o, none⟩ : Addr).add (i * ei.size))), by simp [Instr.indexAt, asIntOf, run_underlying (und_arr ht hd), Instr.sureAddr, hlt, hse], ?_⟩
              simp only [RV]
              exact ⟨bleT hb2, b, o', by rw [add_none]; simp [Nat.add_assoc], k1, k2, k3⟩
          · cases h
      · cases h
    · rename_i e hd
      split at h
      · rename_i ei hei
        have hse := run_sizeOf' (hE.ty _ _ hei) w
        split at h
        · rename_i j r n
          cases hb : Nat.ble (i + 1) n with
          | false => rw [hb, cond_false] at h; cases h
          | true =>
            rw [hb, cond_true] at h
            have hlt : i < n := bleT hb
            split at h
            · rename_i sz rs hg
              cases hb2 : Nat.beq sz ei.size with
              | false => rw [hb2, cond_false] at h; cases h
              | true =>
                rw [hb2, cond_true] at h
                cases h
                simp only [RV] at hx
                obtain ⟨hj, a, c, rfl, hc, ha⟩ := hx
                have hsz := beqT hb2
                refine ⟨.pointer (some (a.add (i * ei.size))), by simp [Instr.indexAt, asIntOf, run_underlying (und_sl ht hd), hlt, hse], ?_⟩
                simp only [RV]
                refine ⟨hj, _, rfl, fun sz' rs' hg' => ?_⟩
                rw [hg] at hg'
                cases hg'
                rw [(ha sz rs hg).1, add_none, ← hsz, Nat.add_mul]
                simp [Nat.add_assoc]
            · cases h
        · rename_i sz rows
          cases hb2 : Nat.beq sz ei.size with
          | false => rw [hb2, cond_false] at h; cases h
          | true =>
            rw [hb2, cond_true] at h
            split at h
            · rename_i row hrow
              cases h
              have hsz := beqT hb2
              have hlt : i < rows.length := (List.getElem?_eq_some_iff.1 hrow).1
              simp only [RV] at hx
              obtain ⟨hs, a, c, rfl, hc, hr⟩ := hx
              obtain ⟨b, o, rfl, k1, k2, k3⟩ := hr (by intro e; rw [e] at hlt; simp at hlt)
              refine ⟨.pointer (some ((⟨b, o, none⟩ : Addr).add (i * ei.size))), by simp [Instr.indexAt, asIntOf, run_underlying (und_sl ht hd), hlt, hse], ?_⟩
              simp only [RV]
              exact ⟨Nat.zero_le _, b, o + i * ei.size, by rw [add_none]; simp, k1, k2, by rw [← hsz]; exact (RRs_iff.1 k3 i row hrow).2⟩
            · cases h
        · cases h
      · cases h
    · cases h
  · cases h

end
end Go.Cl
