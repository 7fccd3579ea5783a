/- Each operation is sound: slices that are built, made, appended to. -/
import Derived.Test.YtpgdhlnocgfjcaaGreatDoorClCi
set_option linter.unusedSimpArgs false
set_option linter.unusedVariables false
set_option linter.unusedSectionVars false
namespace Go.Cl

theorem flatten_length {α : Type} {sz : Nat} : ∀ {rs : List (List α)}, (∀ row ∈ rs, row.length = sz) → rs.flatten.length = rs.length * sz
  | [], _ => by simp
  | a :: rs, h => by
    rw [List.flatten_cons, List.length_append, flatten_length (fun row hr => h row (by simp [hr])), h a (by simp), List.length_cons, Nat.add_mul]
    omega

theorem splice_at {α : Type} (a l cs : List α) (o : Nat) : splice (a ++ l) (a.length + o) cs = a ++ splice l o cs := by
  unfold splice
  rw [List.take_append, List.drop_append]
  rw [show a.length + o - a.length = o by omega, show a.length + o + cs.length - a.length = o + cs.length by omega]
  rw [List.take_of_length_le (by omega), List.drop_of_length_le (by omega)]
  simp

theorem flatten_set {sz : Nat} : ∀ {rs : List (List AV)} {i : Nat} {r : List AV}, (∀ row ∈ rs, row.length = sz) → r.length = sz → i < rs.length → (rs.set i r).flatten = splice rs.flatten (i * sz) r
  | [], i, r, _, _, h => by simp at h
  | a :: rs, 0, r, hl, hr, _ => by
    have ha := hl a (by simp)
    simp only [List.set_cons_zero, List.flatten_cons, Nat.zero_mul, splice, List.take_zero, List.nil_append, Nat.zero_add]
    rw [List.drop_append, List.drop_of_length_le (by omega), hr, ha]
    simp
  | a :: rs, i + 1, r, hl, hr, h => by
    have ha := hl a (by simp)
    rw [List.set_cons_succ, List.flatten_cons, List.flatten_cons, flatten_set (fun row hr => hl row (by simp [hr])) hr (by simpa using h)]
    rw [show (i + 1) * sz = a.length + i * sz by rw [ha, Nat.add_mul]; omega]
    rw [splice_at]

theorem fillRows_flat {sz : Nat} : ∀ (parts : List (Nat × AV)) (rows rows' : List (List AV)), fillRows sz rows parts = some rows' → (∀ row ∈ rows, row.length = sz) →
    fillA (fun i => some (i * sz, sz)) rows.flatten parts = some rows'.flatten ∧ rows'.length = rows.length ∧ (∀ row ∈ rows', row.length = sz) ∧ (∀ p ∈ parts, p.2.cells.all AV.leaf = true)
  | [], rows, rows', h, hl => by
    simp only [fillRows, Option.some.injEq] at h
    subst h
    exact ⟨rfl, rfl, hl, by simp⟩
  | (i, v) :: parts, rows, rows', h, hl => by
    simp only [fillRows] at h
    cases hb : (Nat.beq v.cells.length sz && v.cells.all AV.leaf && Nat.ble (i + 1) rows.length) with
    | false => rw [hb, cond_false] at h; cases h
    | true =>
      rw [hb, cond_true] at h
      simp only [Bool.and_eq_true] at hb
      have c1 := beqT hb.1.1
      have c2 := bleT hb.2
      have hl' : ∀ row ∈ rows.set i v.cells, row.length = sz := by
        intro row hr
        rcases List.mem_or_eq_of_mem_set hr with hr | rfl
        · exact hl row hr
        · exact c1
      obtain ⟨k1, k2, k3, k4⟩ := fillRows_flat parts _ rows' h hl'
      have hmul : (i + 1) * sz ≤ rows.length * sz := Nat.mul_le_mul_right _ c2
      rw [Nat.add_mul, Nat.one_mul] at hmul
      refine ⟨?_, by simpa using k2, k3, ?_⟩
      · simp only [fillA]
        rw [flatten_set hl c1 c2] at k1
        have e1 : Nat.beq v.cells.length sz = true := hb.1.1
        have e2 : Nat.ble (i * sz + sz) rows.flatten.length = true := by
          rw [flatten_length hl]
          exact Nat.ble_eq_true_of_le hmul
        rw [e1, e2]
        exact k1
      · intro p hp
        rcases List.mem_cons.1 hp with rfl | hp
        · exact hb.1.2
        · exact k4 p hp

section
variable {P : Program} {E : Env} (hE : E.Ok P) {ρ : Nat → Loc} {H : Heap} {U : Gh} {w : World}

/-- The cells of so many zero values. -/
theorem zeros_rel {z : Array Value} {zero : List AV} (hz : zero = z.toList.map AV.of1) (n : Nat) : RVs ρ H U w (List.replicate n zero).flatten ((Array.range (n * zero.length)).map (z[· % z.size]!)).toList := by
  have hlen : zero.length = z.size := by rw [hz]; simp
  refine RVs_iff.2 ⟨?_, fun k x hk => ?_⟩
  · rw [flatten_length (sz := zero.length) (by intro row hr; rw [(List.mem_replicate.1 hr).2])]
    simp
  · have hkl : k < n * zero.length := by
      have := (List.getElem?_eq_some_iff.1 hk).1
      rw [flatten_length (sz := zero.length) (by intro row hr; rw [(List.mem_replicate.1 hr).2])] at this
      simpa using this
    have hpos : 0 < zero.length := by
      rcases Nat.eq_zero_or_pos zero.length with h | h
      · rw [h] at hkl; simp at hkl
      · exact h
    have hm : k % zero.length < zero.length := Nat.mod_lt _ hpos
    have hd : k / zero.length < n := (Nat.div_lt_iff_lt_mul hpos).2 hkl
    have hg := flat_get (sz := zero.length) (rs := List.replicate n zero) (r := k / zero.length) (row := zero) (j := k % zero.length) (x := zero[k % zero.length]) (by intro row hr; rw [(List.mem_replicate.1 hr).2]) (by rw [List.getElem?_replicate, if_pos hd]) (by rw [List.getElem?_eq_getElem hm])
    rw [Nat.div_add_mod' k zero.length] at hg
    rw [hk] at hg
    cases hg
    refine ⟨z[k % z.size]!, ?_, ?_⟩
    · simp [hkl]
    · have hmz : k % z.size < z.size := by rw [← hlen]; exact hm
      have e : zero[k % zero.length] = AV.of1 (z[k % z.size]!) := by
        simp only [hz, List.getElem_map, Array.getElem_toList, List.length_map, Array.length_toList]
        rw [getElem!_pos z _ hmz]
      rw [e]
      exact of1_rel _

theorem rows_of_flat {sz : Nat} {rs : List (List AV)} {cs : Array Value} (hl : ∀ row ∈ rs, row.length = sz) (h : RVs ρ H U w rs.flatten cs.toList) :
    ∀ (r : Nat) (row : List AV) (j : Nat) (x : AV), rs[r]? = some row → row[j]? = some x → ∃ v, cs[r * sz + j]? = some v ∧ RV ρ H U w x v := by
  intro r row j x hr hj
  obtain ⟨v, h1, h2⟩ := (RVs_iff.1 h).2 _ x (flat_get hl hr hj)
  exact ⟨v, by simpa using h1, h2⟩

/-- A new slice over a new block. -/
theorem new_slice {nx : Nat} (hn : ¬ U nx) (R : Rel ρ H U w) {sz : Nat} {rs : List (List AV)} (hs : 0 < sz) (hl : ∀ row ∈ rs, row.length = sz) (cs : Array Value) (te : TypeId) (n c : Nat) (hnc : n ≤ c) (hc : c * sz = cs.size) (hrc : rs.length ≤ c) {w' : World}
    (hh : ∀ b, b < w.heap.size → w'.heap[b]? = w.heap[b]?) (fr : Nat × Nat) (hfr : Clear fr cs.size) (hnew : w'.heap[w.heap.size]? = some (.cells cs te fr)) (h1 : w'.os = w.os) (h2 : w'.tape = w.tape) (h3 : w'.output = w.output)
    (hv : ∀ (r : Nat) (row : List AV) (j : Nat) (x : AV), rs[r]? = some row → row[j]? = some x → ∃ v, cs[r * sz + j]? = some v ∧ RV ρ H U w x v) :
    Out ρ H U w (.sl nx 0 n) (H.set nx (.rows sz rs)) (Use nx U) (.ok (.slice (some ⟨w.heap.size, 0, none⟩) n c) w') := by
  obtain ⟨R', E'⟩ := new_rows hn R hs hl cs te fr hfr (by rw [← hc]; exact Nat.mul_le_mul_right _ hrc) hh hnew h1 h2 h3 hv
  refine ⟨_, w', _, rfl, ?_, R', E'⟩
  simp only [RV]
  refine ⟨.inl rfl, _, c, rfl, hnc, fun sz' rs' hg => ?_⟩
  rw [Tr.get_set, if_pos rfl] at hg
  cases hg
  rw [atNew_new]
  exact ⟨by simp, cs, te, fr, hnew, by simpa using hc⟩

include hE
theorem buildSlice_sound {nx : Nat} (hn : ¬ U nx) {t n : Nat} {parts : List (Nat × AV)} {y : AV} {H' : Heap} {nx' : Nat} (h : buildSliceA E t n parts H nx = some (y, H', nx')) (R : Rel ρ H U w) {vparts : Array (Nat × Value)} (hp : PVs ρ H U w parts vparts.toList) :
    OutN ρ H U w y H' nx nx' ((Instr.buildSlice t n vparts).run P w) := by
  unfold buildSliceA at h
  split at h
  case h_2 => cases h
  rename_i ti hti
  have ht := hE.ty _ _ hti
  split at h
  case h_2 => cases h
  rename_i e hd
  split at h
  case h_2 => cases h
  rename_i ei hei
  have hte := hE.ty _ _ hei
  cases hb : (Nat.ble (n * ei.size) 16777216 && Nat.beq ei.zero.length ei.size) with
  | false => rw [hb, cond_false] at h; cases h
  | true =>
    rw [hb, cond_true] at h
    simp only [Bool.and_eq_true] at hb
    have c1 := bleT hb.1
    have c2 := beqT hb.2
    split at h
    case h_2 => cases h
    rename_i rows hrows
    obtain ⟨k1, k2, k3, k4, k5⟩ := newRows_some h
    obtain ⟨f1, f2, f3, f4⟩ := fillRows_flat parts _ _ hrows (by intro row hr; rw [(List.mem_replicate.1 hr).2]; exact c2)
    obtain ⟨ii, dd, q1, q2, q3, q4, q5, q6⟩ := tiOf_some hte
    cases hzero : ii.zero with
    | none => rw [hzero] at q5; simp only at q5; rw [q5] at c2; simp at c2; omega
    | some z =>
      rw [hzero] at q5
      simp only at q5
      subst k3; subst k4; subst k5
      have hzs : z.cells.size = ei.size := by rw [← c2, q5]; simp
      have hz := zeros_rel (ρ := ρ) (H := H) (U := U) (w := w) q5 n
      rw [c2] at hz
      obtain ⟨cs', g1, g2⟩ := fill_sound (ρ := ρ) (H := H) (U := U) (w := w) _ parts vparts.toList _ _ _ f1 hz hp f4
      have hlen : cs'.size = n * ei.size := by
        have := RVs_length g2
        rw [flatten_length f3, f2] at this
        simpa using this.symm
      have hrun : (Instr.buildSlice t n vparts).run P w = .ok (.slice (some ⟨w.heap.size, 0, none⟩) n n) (w.alloc (.cells cs' e)) := by
        by_cases hn : n * ei.size = 0
        · have hn0 : n = 0 := by
            rcases Nat.mul_eq_zero.1 hn with h | h
            · exact h
            · omega
          subst hn0
          have hpe : vparts.toList = [] := by
            cases parts with
            | nil => exact hp
            | cons p ps =>
              exfalso
              simp only [fillRows, List.replicate_zero, List.length_nil] at hrows
              cases hq : (Nat.beq p.2.cells.length ei.size && p.2.cells.all AV.leaf && Nat.ble (p.1 + 1) 0) with
              | false => rw [hq] at hrows; cases hrows
              | true =>
                simp only [Bool.and_eq_true] at hq
                have := bleT hq.2
                omega
          have hcs : cs' = #[] := by
            apply Array.eq_empty_of_size_eq_zero
            rw [hlen]; simp
          rw [hcs]
          simp [Instr.buildSlice, run_underlying (und_sl ht hd), sizeOf, typeInfo, q1, hpe, Instr.fill, newRow]
          rw [show (Array.map (fun x => (default : Value)) (Array.range 0)) = #[] by apply Array.eq_empty_of_size_eq_zero; simp]
        · refine run_buildSlice w t e n vparts cs' ii z (und_sl ht hd) q1 hzero ?_ ?_ ?_
          · rw [← q3]; omega
          · rw [← q3]; exact hn
          · rw [← q3]; exact g1
      rw [hrun]
      exact Out.n (new_slice hn R k1 f3 cs' e n n (Nat.le_refl _) hlen.symm (by rw [f2]; simp) (fun b hb => heap_push_lt w _ hb) (0, 0) (noFr _) (heap_push_new w _) rfl rfl rfl (rows_of_flat f3 g2))

theorem makeSlice_sound {nx : Nat} (hn : ¬ U nx) {t : Nat} {l c y : AV} {H' : Heap} {nx' : Nat} (h : makeSliceA E t l c H nx = some (y, H', nx')) (R : Rel ρ H U w) {vl vc : Value} (h1 : RV ρ H U w l vl) (h2 : RV ρ H U w c vc) :
    OutN ρ H U w y H' nx nx' ((Instr.makeSlice t vl vc).run P w) := by
  unfold makeSliceA at h
  split at h
  case h_2 => cases h
  rename_i ti kl l kc c hti
  have ht := hE.ty _ _ hti
  split at h
  case h_2 => cases h
  rename_i e hd
  split at h
  case h_2 => cases h
  rename_i ei hei
  have hte := hE.ty _ _ hei
  cases hb : (Nat.ble l c && Nat.ble (c * ei.bytes) 1099511627776 && Nat.ble c 1099511627776 && Nat.beq ei.zero.length ei.size) with
  | false => rw [hb, cond_false] at h; cases h
  | true =>
    rw [hb, cond_true] at h
    simp only [Bool.and_eq_true] at hb
    have c1 := bleT hb.1.1.1
    have c2 := bleT hb.1.1.2
    have c3 := bleT hb.1.2
    have c4 := beqT hb.2
    obtain ⟨k1, k2, k3, k4, k5⟩ := newRows_some h
    obtain ⟨ii, dd, q1, q2, q3, q4, q5, q6⟩ := tiOf_some hte
    simp only [RV] at h1 h2
    subst h1; subst h2
    cases hzero : ii.zero with
    | none => rw [hzero] at q5; simp only at q5; rw [q5] at c4; simp at c4; omega
    | some z =>
      rw [hzero] at q5
      simp only at q5
      subst k3; subst k4; subst k5
      have hz := zeros_rel (ρ := ρ) (H := H) (U := U) (w := w) q5 c
      rw [c4] at hz
      have hb' : (ii.bytes : Int) * (c : Int) ≤ 281474976710656 := by
        rw [← q4]
        have : ((ei.bytes * c : Nat) : Int) ≤ 281474976710656 := by rw [Nat.mul_comm]; omega
        rwa [Int.natCast_mul] at this
      have hrun := run_make (P := P) w t e ii z (und_sl ht hd) q1 hzero kl kc (l : Int) (c : Int) (by omega) (by omega) hb' (by omega)
      simp only [Int.toNat_natCast] at hrun
      rw [show (Int.ofNat l) = (l : Int) from rfl, show (Int.ofNat c) = (c : Int) from rfl, hrun, ← q3]
      refine Out.n (new_slice hn R k1 (fun row hr => (k2 row hr).1) (madeCells z.cells (c * ei.size)) e l c c1 ?_ (by simp) (fun b hb => heap_push_lt w _ hb) (0, 0) (noFr _) (heap_push_new w _) rfl rfl rfl (rows_of_flat (fun row hr => (k2 row hr).1) hz))
      simp [madeCells]

end
end Go.Cl
