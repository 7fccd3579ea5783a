/- Each operation is sound: stores, new objects, addresses. -/
import Derived.Test.YtpgdhlnocgfjcaaGreatDoorClCe
set_option linter.unusedSimpArgs false
set_option linter.unusedVariables false
set_option linter.unusedSectionVars false
namespace Go.Cl

/-- What an operation comes to. -/
def Out (ρ : Nat → Loc) (H : Heap) (U : Gh) (w : World) (x : AV) (H' : Heap) (U' : Gh) (r : Result Value) : Prop :=
  ∃ v w' ρ', r = .ok v w' ∧ RV ρ' H' U' w' x v ∧ Rel ρ' H' U' w' ∧ Ext ρ H U w ρ' H' U' w'

/-- The same, with what names may have come into use. -/
def OutN (ρ : Nat → Loc) (H : Heap) (U : Gh) (w : World) (x : AV) (H' : Heap) (nx nx' : Nat) (r : Result Value) : Prop :=
  ∃ U', Out ρ H U w x H' U' r ∧ nx ≤ nx' ∧ ∀ i, U' i → U i ∨ (nx ≤ i ∧ i < nx')

theorem Out.n {ρ : Nat → Loc} {H : Heap} {U : Gh} {w : World} {x : AV} {H' : Heap} {nx : Nat} {r : Result Value} (h : Out ρ H U w x H' (Use nx U) r) : OutN ρ H U w x H' nx (nx + 1) r :=
  ⟨_, h, Nat.le_succ _, fun i hi => hi.elim (fun e => .inr ⟨by omega, by omega⟩) .inl⟩
theorem Out.n0 {ρ : Nat → Loc} {H : Heap} {U : Gh} {w : World} {x : AV} {H' : Heap} {nx : Nat} {r : Result Value} (h : Out ρ H U w x H' U r) : OutN ρ H U w x H' nx nx r :=
  ⟨_, h, Nat.le_refl _, fun i hi => .inl hi⟩

section
variable {P : Program} {ρ : Nat → Loc} {H : Heap} {U : Gh} {w : World}

theorem Out.same {x : AV} {v : Value} {r : Result Value} (R : Rel ρ H U w) (hr : r = .ok v w) (h : RV ρ H U w x v) : Out ρ H U w x H U r :=
  ⟨v, w, ρ, hr, h, R, Ext.refl _ _ _ _⟩

theorem beqT {a b : Nat} (h : Nat.beq a b = true) : a = b := Nat.eq_of_beq_eq_true h
theorem bleT {a b : Nat} (h : Nat.ble a b = true) : a ≤ b := Nat.le_of_ble_eq_true h

theorem of1_rel (v : Value) : RV ρ H U w (AV.of1 v) v := by
  unfold AV.of1
  split <;> simp only [RV]

theorem of_rel (v : Value) : RV ρ H U w (AV.of v) v := by
  unfold AV.of
  split
  · rename_i cs
    simp only [RV]
    refine ⟨cs, rfl, RVs_iff.2 ⟨by simp, fun j x hj => ?_⟩⟩
    rw [List.getElem?_map] at hj
    cases hc : cs.toList[j]? with
    | none => simp [hc] at hj
    | some u =>
      simp only [hc, Option.map_some, Option.some.injEq] at hj
      subst hj
      exact ⟨u, rfl, of1_rel u⟩
  · exact of1_rel _

theorem of1s_rel (vs : List Value) : RVs ρ H U w (vs.map AV.of1) vs := by
  refine RVs_iff.2 ⟨by simp, fun j x hj => ?_⟩
  rw [List.getElem?_map] at hj
  cases hc : vs[j]? with
  | none => simp [hc] at hj
  | some u =>
    simp only [hc, Option.map_some, Option.some.injEq] at hj
    subst hj
    exact ⟨u, rfl, of1_rel u⟩

theorem RVs.monoE {ρ' : Nat → Loc} {H' : Heap} {U' : Gh} {w' : World} (E : Ext0 ρ H U w ρ' H' U' w') {xs : List AV} {vs : List Value} (h : RVs ρ H U w xs vs) : RVs ρ' H' U' w' xs vs := RVs.mono E xs vs h

theorem splice_row {row cells : List AV} {o : Nat} (h : o + cells.length ≤ row.length) (j : Nat) : (splice row o cells)[j]? = if j < o then row[j]? else if j < o + cells.length then cells[j - o]? else row[j]? :=
  getElem?_mid row o cells h j
theorem splice_length {α : Type} {l cs : List α} {o : Nat} (h : o + cs.length ≤ l.length) : (splice l o cs).length = l.length := by
  simp [splice]; omega

/-! ### Stores -/
theorem store_sound {t : Nat} {ti : TI} (ht : tiOf P t = some ti) (R : Rel ρ H U w) {a x : AV} {H' : Heap} (hs : storeA ti H a x = some H') {va vx : Value} (ha : RV ρ H U w a va) (hx : RV ρ H U w x vx) :
    ∃ w', (Instr.storeAt t va vx).run P w = .ok () w' ∧ Rel ρ H' U w' ∧ Ext ρ H U w ρ H' U w' := by
  cases a <;> simp only [storeA] at hs <;> try cases hs
  rename_i i r o
  cases hg : H.get i with
  | none => simp [hg] at hs
  | some ob =>
    cases ob <;> simp only [hg] at hs <;> try cases hs
    rename_i sz rs
    cases hr : rs[r]? with
    | none => simp [hr] at hs
    | some row =>
      simp only [hr] at hs
      cases hb : (Nat.beq x.cells.length ti.size && x.cells.all AV.leaf && Nat.ble (o + ti.size) row.length) with
      | false => rw [hb, cond_false] at hs; cases hs
      | true =>
        rw [hb, cond_true] at hs
        cases hs
        simp only [Bool.and_eq_true] at hb
        obtain ⟨⟨hb1, hb2⟩, hb3⟩ := hb
        have hb1 := beqT hb1
        have hb3 := bleT hb3
        simp only [RV] at ha
        obtain ⟨hU, ad, rfl, had⟩ := ha
        have had := had sz rs hg
        obtain ⟨_, _, hsz, cs, t', fr, hh, hfz, hfit, hrs⟩ := R.obj i _ hU hg
        obtain ⟨hlen, hrow⟩ := RRs_iff.1 hrs r row hr
        have hvs := RVs_cells hb2 hx
        have hvl : vx.cells.toList.length = ti.size := by rw [← RVs_length hvs]; exact hb1
        have hrl : r < rs.length := (List.getElem?_eq_some_iff.1 hr).1
        have hmul : (r + 1) * sz ≤ rs.length * sz := Nat.mul_le_mul_right _ hrl
        have hmul' : (r + 1) * sz = r * sz + sz := by rw [Nat.add_mul, Nat.one_mul]
        obtain ⟨w', h1, h2, h3⟩ := rows_write (P := P) R hU hg (rs' := rs.set r (splice row o x.cells)) (p := r * sz + o) (oneCell_of_leaves hb2 hvs) (by simp) (by rw [hvl]; omega) hvs
          (by
            intro r' row' hr'
            rw [List.getElem?_set] at hr'
            split at hr'
            · have hr' := (Option.some.inj (by simpa [hrl] using hr'))
              subst hr'
              rw [splice_length (by omega)]
              exact hlen
            · exact (RRs_iff.1 hrs r' row' hr').1)
          (by
            intro r' row' j y hr' hj
            rw [List.getElem?_set] at hr'
            split at hr'
            · rename_i e
              subst e
              have hr' := (Option.some.inj (by simpa [hrl] using hr'))
              subst hr'
              rw [splice_row (by omega)] at hj
              by_cases c1 : j < o
              · rw [if_pos c1] at hj
                exact .inr ⟨.inl (by omega), row, hr, hj⟩
              · rw [if_neg c1] at hj
                by_cases c2 : j < o + x.cells.length
                · rw [if_pos c2] at hj
                  refine .inl ⟨by omega, by rw [hvl]; omega, ?_⟩
                  rw [← hj]
                  congr 1
                  omega
                · rw [if_neg c2] at hj
                  exact .inr ⟨.inr (by rw [hvl]; omega), row, hr, hj⟩
            · rename_i hne
              obtain ⟨hl', _⟩ := RRs_iff.1 hrs r' row' hr'
              have hj' : j < sz := by rw [← hl']; exact (List.getElem?_eq_some_iff.1 hj).1
              refine .inr ⟨?_, row', hr', hj⟩
              rcases Nat.lt_or_gt_of_ne hne with c | c
              · right
                have : (r + 1) * sz ≤ r' * sz := Nat.mul_le_mul_right _ c
                rw [hvl]
                omega
              · left
                have : (r' + 1) * sz ≤ r * sz := Nat.mul_le_mul_right _ c
                have e : (r' + 1) * sz = r' * sz + sz := by rw [Nat.add_mul, Nat.one_mul]
                omega)
        refine ⟨w', ?_, h2, h3⟩
        subst had
        have hcs : vx.cells.size = ti.size := by rw [← hvl]; simp
        rw [show (ρ i).o + r * sz + o = (ρ i).o + (r * sz + o) by omega]
        simpa [Instr.storeAt, Instr.sureAddr, storeVar, run_sizeOf' ht, hcs] using h1

/-! ### New objects -/
theorem flat_get {sz : Nat} : ∀ {rs : List (List AV)} {r : Nat} {row : List AV} {j : Nat} {x : AV}, (∀ row ∈ rs, row.length = sz) → rs[r]? = some row → row[j]? = some x → rs.flatten[r * sz + j]? = some x
  | [], r, row, j, x, _, h, _ => by simp at h
  | a :: rs, 0, row, j, x, hl, h, hj => by
    simp only [List.getElem?_cons_zero, Option.some.injEq] at h
    subst h
    have hlt : j < a.length := (List.getElem?_eq_some_iff.1 hj).1
    rw [List.flatten_cons, Nat.zero_mul, Nat.zero_add, List.getElem?_append_left hlt]
    exact hj
  | a :: rs, r + 1, row, j, x, hl, h, hj => by
    have ha := hl a (by simp)
    have ih := flat_get (rs := rs) (fun row hr => hl row (by simp [hr])) (by simpa using h) hj
    rw [List.flatten_cons, List.getElem?_append_right (by rw [ha, Nat.add_mul]; omega), ha]
    rw [← ih]
    congr 1
    rw [Nat.add_mul]
    omega

theorem newRows_some {nx sz : Nat} {rs : List (List AV)} {mk : Nat → AV} {x : AV} {H' : Heap} {nx' : Nat} (h : newRows sz rs mk H nx = some (x, H', nx')) :
    0 < sz ∧ (∀ row ∈ rs, row.length = sz ∧ row.all AV.leaf = true) ∧ x = mk nx ∧ H' = H.set nx (.rows sz rs) ∧ nx' = nx + 1 := by
  unfold newRows at h
  cases hb : (Nat.ble 1 sz && rs.all fun r => Nat.beq r.length sz && r.all AV.leaf) with
  | false => rw [hb, cond_false] at h; cases h
  | true =>
    rw [hb, cond_true] at h
    cases h
    simp only [Bool.and_eq_true] at hb
    refine ⟨bleT hb.1, fun row hr => ?_, rfl, rfl, rfl⟩
    have := List.all_eq_true.1 hb.2 row hr
    simp only [Bool.and_eq_true] at this
    exact ⟨beqT this.1, this.2⟩

/-- A new block of rows. -/
theorem new_rows {nx : Nat} (hn : ¬ U nx) (R : Rel ρ H U w) {sz : Nat} {rs : List (List AV)} (hs : 0 < sz) (hl : ∀ row ∈ rs, row.length = sz) (cs : Array Value) (te : TypeId) (fr : Nat × Nat) (hfr : Clear fr cs.size) (hfit : rs.length * sz ≤ cs.size)
    {w' : World} (hh : ∀ b, b < w.heap.size → w'.heap[b]? = w.heap[b]?) (hnew : w'.heap[w.heap.size]? = some (.cells cs te fr)) (h1 : w'.os = w.os) (h2 : w'.tape = w.tape) (h3 : w'.output = w.output)
    (hv : ∀ (r : Nat) (row : List AV) (j : Nat) (x : AV), rs[r]? = some row → row[j]? = some x → ∃ v, cs[r * sz + j]? = some v ∧ RV ρ H U w x v) :
    Rel (atNew ρ nx ⟨w.heap.size, 0⟩) (H.set nx (.rows sz rs)) (Use nx U) w' ∧ Ext ρ H U w (atNew ρ nx ⟨w.heap.size, 0⟩) (H.set nx (.rows sz rs)) (Use nx U) w' := by
  have hsz : w.heap.size < w'.heap.size := (Array.getElem?_eq_some_iff.1 hnew).1
  have E : Ext ρ H U w (atNew ρ nx ⟨w.heap.size, 0⟩) (H.set nx (.rows sz rs)) (Use nx U) w' := Ext.new hn R (Nat.le_refl _) hh (by omega) h1 h2 h3
  refine ⟨Rel.new hn R E (Nat.le_refl _) hh hsz ?_, E⟩
  refine ⟨hs, cs, te, fr, hnew, hfr, by simpa using hfit, ?_⟩
  rw [RRs_iff]
  intro r row hr
  refine ⟨hl row (List.mem_of_getElem? hr), ?_⟩
  rw [RR_iff]
  intro j x hj
  obtain ⟨v, hv1, hv2⟩ := hv r row j x hr hj
  refine ⟨v, ?_, RV.mono E.toExt0 x v hv2⟩
  rw [cell?_heap hnew]
  simpa using hv1

theorem noFr (n : Nat) : Clear (0, 0) n := .inl rfl

/-- One row, by a push. -/
theorem new_row {nx : Nat} (hn : ¬ U nx) (R : Rel ρ H U w) {sz : Nat} {row : List AV} (hs : 0 < sz) (hl : row.length = sz) (cs : Array Value) (te : TypeId) (hv : RVs ρ H U w row cs.toList) :
    ∀ w', w' = ({ w with heap := w.heap.push (.cells cs te) } : World) → Out ρ H U w (.ptr nx 0 0) (H.set nx (.rows sz [row])) (Use nx U) (.ok (.pointer (some ⟨w.heap.size, 0, none⟩)) w') := by
  intro w' hw
  have hlen := RVs_length hv
  obtain ⟨R', E⟩   := new_rows hn R (rs := [row]) hs (by simpa using hl) cs te (0, 0) (noFr _) (by simp at hlen ⊢; omega) (w' := w') (fun b hb => by rw [hw]; exact heap_push_lt w _ hb) (by rw [hw]; exact heap_push_new w _) (by rw [hw]) (by rw [hw]) (by rw [hw])
    (by
      intro r row' j x hr hj
      cases r with
      | succ r => simp at hr
      | zero =>
        simp only [List.getElem?_cons_zero, Option.some.injEq] at hr
        subst hr
        obtain ⟨v, h1, h2⟩ := (RVs_iff.1 hv).2 j x hj
        exact ⟨v, by simpa using h1, h2⟩)
  refine ⟨_, w', _, rfl, ?_, R', E⟩
  simp only [RV]
  refine ⟨.inl rfl, _, rfl, fun sz' rs' hg => ?_⟩
  rw [atNew_new]
  simp

theorem box_sound {nx : Nat} (hn : ¬ U nx) {t : Nat} (R : Rel ρ H U w) {ti : TI} (hs : 0 < ti.size) {x : AV} (hb : x.cells.length = ti.size) (hl : x.cells.all AV.leaf = true) {v : Value} (hx : RV ρ H U w x v) :
    Out ρ H U w (.ptr nx 0 0) (H.set nx (.rows ti.size [x.cells])) (Use nx U) ((Instr.box t v).run P w) := by
  have h := new_row hn R hs hb v.cells t (RVs_cells hl hx) _ rfl
  simpa [Instr.box, newVar, newRow] using h

theorem alloc_sound {nx : Nat} (hn : ¬ U nx) {t : Nat} {ti : TI} (ht : tiOf P t = some ti) (R : Rel ρ H U w) (hs : 0 < ti.size) (hz : ti.zero.length = ti.size) (old : Value) :
    Out ρ H U w (.ptr nx 0 0) (H.set nx (.rows ti.size [ti.zero])) (Use nx U) ((Instr.alloc t true old).run P w) := by
  obtain ⟨i, d, h1, h2, h3, h4, h5, h6⟩ := tiOf_some ht
  cases hzero : i.zero with
  | none => rw [hzero] at h5; simp only at h5; rw [h5] at hz; simp at hz; omega
  | some z =>
    rw [hzero] at h5
    simp only at h5
    have h := new_row hn R hs hz z.cells t (by rw [h5]; exact of1s_rel _) _ rfl
    simpa [Instr.alloc, zeroValue, typeInfo, h1, hzero, newVar, newRow] using h

end
end Go.Cl
