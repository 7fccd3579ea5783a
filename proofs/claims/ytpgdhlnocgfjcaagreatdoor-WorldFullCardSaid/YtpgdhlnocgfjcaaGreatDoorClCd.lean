/- Laws of the relation: reading, writing, new objects. -/
import Derived.Test.YtpgdhlnocgfjcaaGreatDoorClCc
import Derived.Laws.CopyRow
import Derived.Laws.Cells
set_option linter.unusedSimpArgs false
set_option linter.unusedVariables false
set_option linter.unusedSectionVars false
namespace Go.Cl

theorem add_none (b o j : Nat) : (⟨b, o, none⟩ : Addr).add j = ⟨b, o + j, none⟩ := by
  unfold Addr.add
  split
  · rename_i h; subst h; rfl
  · rfl

section
variable {ρ : Nat → Loc} {H : Heap} {U : Gh} {w : World}

theorem RR_iff {b : Nat} : ∀ {row : List AV} {o : Nat}, RR ρ H U w b o row ↔ ∀ j x, row[j]? = some x → ∃ v, w.cell? ⟨b, o + j, none⟩ = some v ∧ RV ρ H U w x v
  | [], o => by simp [RR]
  | x :: xs, o => by
    simp only [RR]
    rw [RR_iff (row := xs)]
    constructor
    · rintro ⟨h0, h⟩ j y hj
      cases j with
      | zero => simp only [List.getElem?_cons_zero, Option.some.injEq] at hj; subst hj; exact h0
      | succ j =>
        have := h j y (by simpa using hj)
        rwa [show o + 1 + j = o + (j + 1) by omega] at this
    · intro h
      refine ⟨h 0 x rfl, fun j y hj => ?_⟩
      have := h (j + 1) y (by simpa using hj)
      rwa [show o + (j + 1) = o + 1 + j by omega] at this

theorem RRs_iff {sz b : Nat} : ∀ {rows : List (List AV)} {o : Nat}, RRs ρ H U w sz b o rows ↔ ∀ r row, rows[r]? = some row → row.length = sz ∧ RR ρ H U w b (o + r * sz) row
  | [], o => by simp [RRs]
  | x :: xs, o => by
    simp only [RRs]
    rw [RRs_iff (rows := xs)]
    constructor
    · rintro ⟨h0, h1, h⟩ r y hr
      cases r with
      | zero => simp only [List.getElem?_cons_zero, Option.some.injEq] at hr; subst hr; exact ⟨h0, by simpa using h1⟩
      | succ r =>
        have := h r y (by simpa using hr)
        rwa [show o + sz + r * sz = o + (r + 1) * sz by rw [Nat.add_mul]; omega] at this
    · intro h
      have h0 := h 0 x rfl
      refine ⟨h0.1, by simpa using h0.2, fun r y hr => ?_⟩
      have := h (r + 1) y (by simpa using hr)
      rwa [show o + (r + 1) * sz = o + sz + r * sz by rw [Nat.add_mul]; omega] at this

theorem RVs_iff : ∀ {xs : List AV} {vs : List Value}, RVs ρ H U w xs vs ↔ xs.length = vs.length ∧ ∀ (j : Nat) (x : AV), xs[j]? = some x → ∃ v, vs[j]? = some v ∧ RV ρ H U w x v
  | [], vs => by
    simp only [RVs]
    cases vs <;> simp
  | x :: xs, vs => by
    simp only [RVs]
    constructor
    · rintro ⟨v, r, rfl, hx, hr⟩
      have ⟨hl, h⟩ := RVs_iff.1 hr
      refine ⟨by simp [hl], fun j y hj => ?_⟩
      cases j with
      | zero => simp only [List.getElem?_cons_zero, Option.some.injEq] at hj; subst hj; exact ⟨v, rfl, hx⟩
      | succ j => simpa using h j y (by simpa using hj)
    · rintro ⟨hl, h⟩
      cases vs with
      | nil => simp at hl
      | cons v r =>
        obtain ⟨v', hv', hx⟩ := h 0 x rfl
        simp only [List.getElem?_cons_zero, Option.some.injEq] at hv'
        subst hv'
        refine ⟨v, r, rfl, hx, RVs_iff.2 ⟨by simpa using hl, fun j y hj => ?_⟩⟩
        simpa using h (j + 1) y (by simpa using hj)

theorem oneCell_of_leaf {x : AV} {v : Value} (hl : x.leaf = true) (h : RV ρ H U w x v) : v.oneCell' = true := by
  cases x <;> simp only [RV] at h <;> simp only [AV.leaf] at hl
  all_goals first
    | (subst h; rfl)
    | exact h
    | (obtain ⟨rfl, _⟩ := h; rfl)
    | (obtain ⟨_, _, rfl, _⟩ := h; rfl)
    | (obtain ⟨_, _, _, rfl, _⟩ := h; rfl)
    | (obtain ⟨_, rfl⟩ := h; rfl)
    | (obtain ⟨_, rfl, _⟩ := h; rfl)
    | cases hl

theorem cells_of_oneCell {v : Value} (h : v.oneCell' = true) : v.cells = #[v] := by
  cases v <;> simp_all [Value.cells, Value.oneCell']

theorem RVs_cells {x : AV} {v : Value} (hl : x.cells.all AV.leaf = true) (h : RV ρ H U w x v) : RVs ρ H U w x.cells v.cells.toList := by
  have key : x.leaf = true → RVs ρ H U w [x] v.cells.toList := fun hx => by
    rw [cells_of_oneCell (oneCell_of_leaf hx h)]
    exact ⟨v, [], rfl, h, rfl⟩
  cases x
  case agg cs =>
    simp only [RV] at h
    obtain ⟨us, rfl, hr⟩ := h
    exact hr
  all_goals (refine key ?_; simpa [AV.cells] using hl)

theorem oneCell_of_leaves : ∀ {xs : List AV} {vs : List Value}, xs.all AV.leaf = true → RVs ρ H U w xs vs → ∀ v ∈ vs, v.oneCell' = true
  | [], vs, _, h => by simp only [RVs] at h; subst h; simp
  | x :: xs, vs, hl, h => by
    simp only [RVs] at h
    obtain ⟨v, r, rfl, hx, hr⟩ := h
    simp only [List.all_cons, Bool.and_eq_true] at hl
    intro u hu
    rcases List.mem_cons.1 hu with rfl | hu
    · exact oneCell_of_leaf hl.1 hx
    · exact oneCell_of_leaves hl.2 hr u hu

/-! ### Types -/
theorem tiOf_some {P : Program} {t : Nat} {ti : TI} (h : tiOf P t = some ti) : ∃ i d, P.info? t = some i ∧ P.underlying t = some d ∧ ti.size = i.size ∧ ti.bytes = i.bytes ∧
    ti.zero = (match i.zero with | some z => z.cells.toList.map AV.of1 | none => []) ∧ ti.td = tdOf d := by
  unfold tiOf at h
  cases h1 : P.info? t with
  | none => simp [h1] at h
  | some i =>
    cases h2 : P.underlying t with
    | none => simp [h1, h2] at h
    | some d =>
      simp only [h1, h2, Option.some.injEq] at h
      subst h
      exact ⟨i, d, rfl, rfl, rfl, rfl, rfl, rfl⟩

theorem tiOf_zv {P : Program} {t : Nat} {ti : TI} (h : tiOf P t = some ti) : ∃ i, P.info? t = some i ∧ ti.zv = i.zero.map AV.of := by
  unfold tiOf at h
  cases h1 : P.info? t with
  | none => simp [h1] at h
  | some i =>
    cases h2 : P.underlying t with
    | none => simp [h1, h2] at h
    | some d =>
      simp only [h1, h2, Option.some.injEq] at h
      subst h
      exact ⟨i, rfl, rfl⟩

theorem run_sizeOf' {P : Program} {t : Nat} {ti : TI} (h : tiOf P t = some ti) (w : World) : (sizeOf t).run P w = .ok ti.size w := by
  obtain ⟨i, d, h1, h2, h3, -⟩ := tiOf_some h
  simp [sizeOf, typeInfo, h1, h3]

theorem run_isAgg' {P : Program} {t : Nat} {ti : TI} (h : tiOf P t = some ti) (w : World) : (isAgg t).run P w = .ok ti.isAgg w := by
  obtain ⟨i, d, h1, h2, h3, h4, h5, h6⟩ := tiOf_some h
  unfold isAgg TI.isAgg
  rw [h6]
  cases d <;> simp [run_underlying h2, tdOf]

/-! ### Reading -/
theorem takeAt_some {l : List AV} {o n : Nat} {cs : List AV} (h : takeAt l o n = some cs) : o + n ≤ l.length ∧ cs = (l.drop o).take n := by
  unfold takeAt at h
  cases hb : Nat.ble (o + n) l.length <;> simp only [hb, cond_true, cond_false] at h
  · cases h
  · exact ⟨Nat.le_of_ble_eq_true hb, (Option.some.inj h).symm⟩

/-- What stands in a row's cells, as a list. -/
theorem RR_vals {b o : Nat} {row : List AV} (h : RR ρ H U w b o row) : ∃ vs : List Value, RVs ρ H U w row vs ∧ ∀ j v, vs[j]? = some v → w.cell? ⟨b, o + j, none⟩ = some v := by
  induction row generalizing o with
  | nil => exact ⟨[], rfl, by simp⟩
  | cons x xs ih =>
    simp only [RR] at h
    obtain ⟨⟨v, hv, hx⟩, hr⟩ := h
    obtain ⟨vs, h1, h2⟩ := ih hr
    refine ⟨v :: vs, ⟨v, vs, rfl, hx, h1⟩, fun j u hj => ?_⟩
    cases j with
    | zero => simp only [List.getElem?_cons_zero, Option.some.injEq] at hj; subst hj; exact hv
    | succ j =>
      have := h2 j u (by simpa using hj)
      rwa [show o + 1 + j = o + (j + 1) by omega] at this

theorem RR_sub {b o k n : Nat} {row : List AV} (h : RR ρ H U w b o row) : RR ρ H U w b (o + k) ((row.drop k).take n) := by
  rw [RR_iff] at h ⊢
  intro j x hj
  rw [List.getElem?_take] at hj
  split at hj
  · rw [List.getElem?_drop] at hj
    have := h (k + j) x hj
    rwa [show o + (k + j) = o + k + j by omega] at this
  · cases hj

theorem RVs_length {xs : List AV} {vs : List Value} (h : RVs ρ H U w xs vs) : xs.length = vs.length := (RVs_iff.1 h).1

theorem part_load {P : Program} {t : Nat} {ti : TI} (ht : tiOf P t = some ti) {row : List AV} {o : Nat} {x : AV} (hp : part ti row o = some x) {b o' : Nat} (hr : RR ρ H U w b o' row) :
    ∃ u, (loadVar t ⟨b, o' + o, none⟩).run P w = .ok u w ∧ RV ρ H U w x u := by
  unfold part at hp
  unfold loadVar
  cases hb : ti.isAgg with
  | false =>
    rw [hb, cond_false] at hp
    obtain ⟨v, hv, hx⟩ := RR_iff.1 hr o x hp
    refine ⟨v, ?_, hx⟩
    simp [run_isAgg' ht, hb, hv]
  | true =>
    rw [hb, cond_true] at hp
    cases hta : takeAt row o ti.size with
    | none => simp [hta] at hp
    | some cs =>
      simp only [hta, Option.map_some, Option.some.injEq] at hp
      obtain ⟨hle, hcs⟩ := takeAt_some hta
      have hsub := RR_sub (k := o) (n := ti.size) hr
      rw [← hcs] at hsub
      obtain ⟨vs, h1, h2⟩ := RR_vals hsub
      have hlen : vs.length = ti.size := by
        rw [← RVs_length h1, hcs]
        simp
        omega
      have hl := run_loadCells_list (P := P) w ⟨b, o' + o, none⟩ vs (fun j v hj => by rw [add_none]; exact h2 j v hj)
      rw [hlen] at hl
      refine ⟨.agg vs.toArray, ?_, ?_⟩
      · simp [run_isAgg' ht, hb, run_sizeOf' ht, hl]
      · subst hp
        simp only [RV]
        exact ⟨vs.toArray, rfl, by simpa using h1⟩

theorem load_sound {P : Program} {t : Nat} {ti : TI} (ht : tiOf P t = some ti) (R : Rel ρ H U w) {a x : AV} (hl : loadA ti H a = some x) {v : Value} (hv : RV ρ H U w a v) :
    ∃ u, (Instr.loadAt t v).run P w = .ok u w ∧ RV ρ H U w x u := by
  cases a <;> simp only [loadA] at hl <;> try cases hl
  case ptr i r o =>
    cases hg : H.get i with
    | none => simp [hg] at hl
    | some ob =>
      cases ob <;> simp only [hg] at hl <;> try cases hl
      rename_i sz rs
      cases hr : rs[r]? with
      | none => simp [hr] at hl
      | some row =>
        simp only [hr] at hl
        simp only [RV] at hv
        obtain ⟨hU, a, rfl, ha⟩ := hv
        have ha := ha sz rs hg
        obtain ⟨_, _, hs, cs, t', fr, hh, hfz, hfit, hrs⟩ := R.obj i _ hU hg
        obtain ⟨hlen, hrow⟩ := RRs_iff.1 hrs r row hr
        obtain ⟨u, hu, hx⟩ := part_load ht hl hrow
        refine ⟨u, ?_, hx⟩
        subst ha
        simpa [Instr.loadAt, Instr.sureAddr] using hu
  case fp row o =>
    simp only [RV] at hv
    obtain ⟨_, b, o', rfl, _, _, hrow⟩ := hv
    obtain ⟨u, hu, hx⟩ := part_load ht hl hrow
    refine ⟨u, ?_, hx⟩
    simpa [Instr.loadAt, Instr.sureAddr] using hu

end
end Go.Cl
