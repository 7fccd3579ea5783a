/- Each operation is sound: copy, clear, lengths, conversions. -/
import Derived.Test.YtpgdhlnocgfjcaaGreatDoorClCk
import Derived.Lib.ConvBytes
set_option linter.unusedSimpArgs false
set_option linter.unusedVariables false
set_option linter.unusedSectionVars false
namespace Go.Cl

section
variable {P : Program} {E : Env} (hE : E.Ok P) {ρ : Nat → Loc} {H : Heap} {U : Gh} {w : World}

theorem RVs_take {xs : List AV} {vs : List Value} (h : RVs ρ H U w xs vs) (k : Nat) : RVs ρ H U w (xs.take k) (vs.take k) := by
  obtain ⟨h1, h2⟩ := RVs_iff.1 h
  refine RVs_iff.2 ⟨by simp [h1], fun j x hj => ?_⟩
  rw [List.getElem?_take] at hj ⊢
  split at hj
  · rename_i hlt
    rw [if_pos hlt]
    exact h2 j x hj
  · cases hj

theorem flatten_take {sz : Nat} : ∀ {rows : List (List AV)} (k : Nat), (∀ row ∈ rows, row.length = sz) → (rows.take k).flatten = rows.flatten.take (k * sz)
  | [], k, _ => by simp
  | row :: rows, 0, _ => by simp
  | row :: rows, k + 1, h => by
    have hr := h row (by simp)
    rw [List.take_succ_cons, List.flatten_cons, List.flatten_cons, flatten_take k (fun r hr => h r (by simp [hr])), List.take_append]
    rw [List.take_of_length_le (show row.length ≤ (k + 1) * sz by rw [hr, Nat.add_mul]; omega)]
    congr 2
    rw [hr, Nat.add_mul]
    omega

/-- Whole rows are written from row r on. -/
theorem rows_splice (R : Rel ρ H U w) {i sz : Nat} {rs src : List (List AV)} (hU : U i) (hg : H.get i = some (.rows sz rs)) {r : Nat} {vs : List Value} (hfit : r + src.length ≤ rs.length) (hl : ∀ row ∈ src, row.length = sz ∧ row.all AV.leaf = true) (hvs : RVs ρ H U w src.flatten vs) :
    ∃ w', (storeCells ⟨(ρ i).b, (ρ i).o + r * sz, none⟩ vs).run P w = .ok () w' ∧ Rel ρ (H.set i (.rows sz (splice rs r src))) U w' ∧ Ext ρ H U w ρ (H.set i (.rows sz (splice rs r src))) U w' := by
  have hrs : ∀ (r : Nat) (row : List AV), rs[r]? = some row → row.length = sz := by
    obtain ⟨_, _, _, cs, t, fr, _, _, _, hrs⟩ := R.obj i _ hU hg
    exact fun r row hr => (RRs_iff.1 hrs r row hr).1
  have hl1 : ∀ row ∈ src, row.length = sz := fun row hr => (hl row hr).1
  have hlen : vs.length = src.length * sz := by rw [← RVs_length hvs, flatten_length hl1]
  have hmul : (r + src.length) * sz ≤ rs.length * sz := Nat.mul_le_mul_right _ hfit
  have hm2 : (r + src.length) * sz = r * sz + src.length * sz := by rw [Nat.add_mul]
  refine rows_write (P := P) R hU hg (rs' := splice rs r src) (p := r * sz) (oneCell_of_leaves (leaves_flatten fun row hr => (hl row hr).2) hvs) (splice_length hfit) (by omega) hvs ?_ ?_
  · intro r' row hr
    rw [show splice rs r src = rs.take r ++ src ++ rs.drop (r + src.length) from rfl, getElem?_mid rs r src hfit] at hr
    split at hr
    · exact hrs _ _ hr
    · split at hr
      · exact hl1 row (List.mem_of_getElem? hr)
      · exact hrs _ _ hr
  · intro r' row j x hr hj
    rw [show splice rs r src = rs.take r ++ src ++ rs.drop (r + src.length) from rfl, getElem?_mid rs r src hfit] at hr
    have hjl := (List.getElem?_eq_some_iff.1 hj).1
    split at hr
    · rename_i hlt
      have := hrs _ _ hr
      have hm : (r' + 1) * sz ≤ r * sz := Nat.mul_le_mul_right _ hlt
      rw [Nat.add_mul] at hm
      exact .inr ⟨.inl (by omega), row, hr, hj⟩
    · rename_i hge
      split at hr
      · rename_i hlt
        have := hl1 row (List.mem_of_getElem? hr)
        have hfl := flat_get hl1 hr hj
        have hm : r * sz ≤ r' * sz := Nat.mul_le_mul_right _ (by omega)
        have hm3 : (r' + 1) * sz ≤ (r + src.length) * sz := Nat.mul_le_mul_right _ (by omega)
        rw [Nat.add_mul] at hm3
        refine .inl ⟨by omega, by omega, ?_⟩
        rw [← hfl]
        congr 1
        rw [Nat.sub_mul]
        omega
      · rename_i hge2
        have hm : (r + src.length) * sz ≤ r' * sz := Nat.mul_le_mul_right _ (by omega)
        exact .inr ⟨.inr (by omega), row, hr, hj⟩

include hE
theorem copy_sound {nx : Nat} {t ty : Nat} {ts : Array Nat} (hts : ts[0]? = some t) {d s y : AV} {H' : Heap} {nx' : Nat} (h : copyA E t d s H nx = some (y, H', nx')) (R : Rel ρ H U w) {vd vs : Value} (hd : RV ρ H U w d vd) (hs : RV ρ H U w s vs) :
    OutN ρ H U w y H' nx nx' ((Builtin.copy_ ts ty #[vd, vs]).run P w) := by
  unfold copyA at h
  split at h
  case h_2 => cases h
  rename_i ti hti
  have ht := hE.ty _ _ hti
  split at h
  case h_2 => cases h
  rename_i e hdd
  split at h
  case h_2 => cases h
  rename_i ei hei
  have hte := hE.ty _ _ hei
  have hul := und_sl ht hdd
  split at h
  · rename_i src i r n hsrc
    obtain ⟨news, n1, n2, n3, n4, n5⟩ := rows_read (P := P) R hsrc hs
    split at h
    case h_2 => cases h
    rename_i sz rs hg
    cases hb : (Nat.beq sz ei.size && Nat.ble (r + n) rs.length && (src.all fun row => Nat.beq row.length sz && row.all AV.leaf)) with
    | false => rw [hb, cond_false] at h; cases h
    | true =>
      rw [hb, cond_true] at h
      cases h
      simp only [Bool.and_eq_true] at hb
      have c1 := beqT hb.1.1
      have c2 := bleT hb.1.2
      have c3 : ∀ row ∈ src, row.length = sz ∧ row.all AV.leaf = true := fun row hr => by
        have := List.all_eq_true.1 hb.2 row hr
        simp only [Bool.and_eq_true] at this
        exact ⟨beqT this.1, this.2⟩
      subst c1
      simp only [RV] at hd
      obtain ⟨hU, a, c, rfl, hc, ha⟩ := hd
      obtain ⟨rfl, _⟩ := ha _ _ hg
      have hvs := RVs_take n1 (min src.length n * ei.size)
      have hft := flatten_take (sz := ei.size) (min src.length n) (fun row hr => (c3 row hr).1)
      have htk : src.take n = src.take (min src.length n) := by
        rw [List.take_eq_take_min, Nat.min_comm]
      rw [← hft, ← htk] at hvs
      obtain ⟨w', h1, h2, h3⟩ := rows_splice (P := P) R hU hg (r := r) (src := src.take n) (by simp; omega) (fun row hr => c3 row (List.mem_of_mem_take hr)) hvs
      refine Out.n0 ⟨.int .i64 ((min src.length n : Nat) : Int), w', ρ, ?_, by simp only [RV], h2, h3⟩
      · have hf := n4 (min src.length n) w rfl (Nat.min_le_left _ _)
        simp [Builtin.copy_, hts, run_underlying hul, run_sizeOf' hte, n3, Nat.min_def] at hf ⊢
        simp [Nat.min_def] at h1
        simp [hf, h1, goInt]
  · rename_i src hsrc
    obtain ⟨news, n1, n2, n3, n4, n5⟩ := rows_read (P := P) R hsrc hs
    cases h
    simp only [RV] at hd
    subst hd
    refine Out.n0 (Out.same R (v := .int .i64 0) ?_ (by simp only [RV]))
    have hf := n4 0 w rfl (Nat.zero_le _)
    simp [Builtin.copy_, hts, run_underlying hul, run_sizeOf' hte, n3, hf, goInt]
  · rename_i src hsrc
    obtain ⟨news, n1, n2, n3, n4, n5⟩ := rows_read (P := P) R hsrc hs
    cases h
    simp only [RV] at hd
    obtain ⟨a, rfl⟩ := hd
    refine Out.n0 (Out.same R (v := .int .i64 0) ?_ (by simp only [RV]))
    have hf := n4 0 w rfl (Nat.zero_le _)
    cases a <;> simp [Builtin.copy_, hts, run_underlying hul, run_sizeOf' hte, n3, hf, goInt, storeCells]
  · cases h

theorem clear_sound {nx : Nat} {t ty : Nat} {ts : Array Nat} (hts : ts[0]? = some t) {x y : AV} {H' : Heap} {nx' : Nat} (h : clearA E t x H nx = some (y, H', nx')) (R : Rel ρ H U w) {vx : Value} (hx : RV ρ H U w x vx) :
    OutN ρ H U w y H' nx nx' ((Builtin.clear_ ts ty #[vx]).run P w) := by
  unfold clearA at h
  split at h
  case h_2 => cases h
  rename_i ti hti
  have ht := hE.ty _ _ hti
  split at h
  · rename_i e i r n hdd
    have hul := und_sl ht hdd
    split at h
    case h_2 => cases h
    rename_i ei sz rs hei hg
    have hte := hE.ty _ _ hei
    cases hb : (Nat.beq sz ei.size && Nat.ble (r + n) rs.length && Nat.beq ei.zero.length sz && ei.zero.all AV.leaf) with
    | false => rw [hb, cond_false] at h; cases h
    | true =>
      rw [hb, cond_true] at h
      cases h
      simp only [Bool.and_eq_true] at hb
      have c1 := beqT hb.1.1.1
      have c2 := bleT hb.1.1.2
      have c3 := beqT hb.1.2
      subst c1
      simp only [RV] at hx
      obtain ⟨hU, a, c, rfl, hc, ha⟩ := hx
      obtain ⟨rfl, _⟩ := ha _ _ hg
      obtain ⟨ii, dd, q1, q2, q3, q4, q5, q6⟩ := tiOf_some hte
      have hsz := (R.obj i _ hU hg).2.2.1
      cases hzero : ii.zero with
      | none => rw [hzero] at q5; simp only at q5; rw [q5] at c3; simp at c3; omega
      | some z =>
        rw [hzero] at q5
        simp only at q5
        have hz := zeros_rel (ρ := ρ) (H := H) (U := U) (w := w) q5 n
        have hzl : ei.zero.length = z.cells.size := by rw [q5]; simp
        obtain ⟨w', h1, h2, h3⟩ := rows_splice (P := P) R hU hg (r := r) (src := List.replicate n ei.zero) (by simp; omega) (fun row hr => by rw [(List.mem_replicate.1 hr).2]; exact ⟨c3, hb.2⟩) hz
        refine Out.n0 ⟨.tuple #[], w', ρ, ?_, ?_, h2, h3⟩
        rotate_left
        · simp only [RV]
          exact ⟨_, rfl, by simp only [RVs]⟩
        · rw [hzl] at h1
          cases n with
          | zero =>
            have : (storeCells ⟨(ρ i).b, (ρ i).o + r * ei.size, none⟩ []).run P w = .ok () w := rfl
            simp at h1
            rw [this] at h1
            cases h1
            simp [Builtin.clear_, hts, run_underlying hul]
          | succ n => simp [Builtin.clear_, hts, run_underlying hul, zeroValue, typeInfo, q1, hzero, Builtin.zeroCells] at h1 ⊢; simp [h1]
  · rename_i e hdd
    have hul := und_sl ht hdd
    cases h
    simp only [RV] at hx
    subst hx
    exact Out.n0 (Out.same R (v := .tuple #[]) (by simp [Builtin.clear_, hts, run_underlying hul]) (by simp only [RV]; exact ⟨#[], rfl, by simp only [RVs]⟩))
  · rename_i e hdd
    have hul := und_sl ht hdd
    cases h
    simp only [RV] at hx
    obtain ⟨a, rfl⟩ := hx
    exact Out.n0 (Out.same R (v := .tuple #[]) (by cases a <;> simp [Builtin.clear_, hts, run_underlying hul]) (by simp only [RV]; exact ⟨#[], rfl, by simp only [RVs]⟩))
  · rename_i e sz hdd
    have hul := und_sl ht hdd
    cases h
    simp only [RV] at hx
    obtain ⟨_, a, c, rfl, _⟩ := hx
    exact Out.n0 (Out.same R (v := .tuple #[]) (by cases a <;> simp [Builtin.clear_, hts, run_underlying hul]) (by simp only [RV]; exact ⟨#[], rfl, by simp only [RVs]⟩))
  · cases h
end
end Go.Cl
