/- A state is seen as one that says less: what is not reached is let go, a number becomes one that is not known. -/
import Derived.Test.YtpgdhlnocgfjcaaGreatDoorClEi
import Derived.Test.YtpgdhlnocgfjcaaGreatDoorClEj
import Derived.Test.YtpgdhlnocgfjcaaGreatDoorClEd
set_option linter.unusedSimpArgs false
set_option linter.unusedVariables false
set_option linter.unusedSectionVars false
namespace Go.Cl

/-! ### Names -/
mutual
def inM (m : Nat → Bool) : AV → Bool
  | .ptr i _ _ | .sl i _ _ | .map i | .it i => m i
  | .fs _ rows => inMR m rows
  | .fp row _ => inML m row
  | .fn _ a b => inML m a && inML m b
  | .ifc _ v => inM m v
  | .agg cs => inML m cs
  | .tup cs => inML m cs
  | .sy _ => false
  | _ => true
def inML (m : Nat → Bool) : List AV → Bool
  | [] => true
  | x :: l => inM m x && inML m l
def inMR (m : Nat → Bool) : List (List AV) → Bool
  | [] => true
  | x :: l => inML m x && inMR m l
end

def wkV (m : Nat → Bool) (nm : AV → AV → Bool) (x y : AV) : Bool := nm x y || (sameV x y && inM m x)
def wkL (m : Nat → Bool) (nm : AV → AV → Bool) : List AV → List AV → Bool
  | [], [] => true
  | x :: l, y :: k => wkV m nm x y && wkL m nm l k
  | _, _ => false
def wkR (m : Nat → Bool) (nm : AV → AV → Bool) : List (List AV) → List (List AV) → Bool
  | [], [] => true
  | x :: l, y :: k => wkL m nm x y && wkR m nm l k
  | _, _ => false
def wkE (m : Nat → Bool) : List (AV × AV) → List (AV × AV) → Bool
  | [], [] => true
  | x :: l, y :: k => sameV x.1 y.1 && inM m x.1 && (sameV x.2 y.2 && inM m x.2) && wkE m l k
  | _, _ => false
def wkO (m : Nat → Bool) (nm : AV → AV → Bool) : AO → AO → Bool
  | .rows sz rs, .rows sz' rs' => Nat.beq sz sz' && wkR m nm rs rs'
  | .map es, .map es' => wkE m es es'
  | _, _ => false
def covT (m : Nat → Bool) (nm : AV → AV → Bool) (T : Tr AV) : List (Nat × AV) → Bool
  | [] => true
  | p :: l => (match T.get p.1 with | some x => wkV m nm x p.2 | none => false) && covT m nm T l
def covH (m : Nat → Bool) (nm : AV → AV → Bool) (H : Heap) : List (Nat × AO) → Bool
  | [] => true
  | p :: l => (match H.get p.1 with | some o => wkO m nm o p.2 | none => false) && covH m nm H l
def namesOf (l : List (Nat × AO)) (i : Nat) : Bool := l.any fun p => Nat.beq p.1 i
/-- Does a state say what a literal one says? -/
def covS (nm : AV → AV → Bool) (lt : List (Nat × AV)) (lh : List (Nat × AO)) (nx : Nat) (T : Tr AV) (H : Heap) : Bool := covT (namesOf lh) nm T lt && covH (namesOf lh) nm H lh && lh.all fun p => Nat.ble (p.1 + 1) nx
def mkT {α : Type} : List (Nat × α) → Tr α
  | [] => .lf
  | p :: l => (mkT l).set p.1 p.2

theorem mkT_get {α : Type} : ∀ {l : List (Nat × α)} {t : Nat} {x : α}, (mkT l).get t = some x → (t, x) ∈ l
  | [], t, x, h => by simp [mkT, Tr.get] at h
  | p :: l, t, x, h => by
    simp only [mkT, Tr.get_set] at h
    split at h
    · rename_i e; cases h; rw [e]; exact List.mem_cons_self ..
    · exact List.mem_cons_of_mem _ (mkT_get h)
theorem covT_mem {m : Nat → Bool} {nm : AV → AV → Bool} {T : Tr AV} : ∀ {l : List (Nat × AV)}, covT m nm T l = true → ∀ t y, (t, y) ∈ l → ∃ x, T.get t = some x ∧ wkV m nm x y = true
  | [], _, t, y, h => by cases h
  | p :: l, hc, t, y, h => by
    simp only [covT, Bool.and_eq_true] at hc
    rcases List.mem_cons.1 h with rfl | h
    · have h1 := hc.1
      split at h1
      · rename_i x hx; exact ⟨x, hx, h1⟩
      · cases h1
    · exact covT_mem hc.2 t y h
theorem covH_mem {m : Nat → Bool} {nm : AV → AV → Bool} {H : Heap} : ∀ {l : List (Nat × AO)}, covH m nm H l = true → ∀ t y, (t, y) ∈ l → ∃ x, H.get t = some x ∧ wkO m nm x y = true
  | [], _, t, y, h => by cases h
  | p :: l, hc, t, y, h => by
    simp only [covH, Bool.and_eq_true] at hc
    rcases List.mem_cons.1 h with rfl | h
    · have h1 := hc.1
      split at h1
      · rename_i x hx; exact ⟨x, hx, h1⟩
      · cases h1
    · exact covH_mem hc.2 t y h

/-! ### What is kept of the first world -/
structure Old (w0 : World) (ρ : Nat → Loc) (H : Heap) (U : Gh) (w : World) : Prop where
  size : w0.heap.size ≤ w.heap.size
  block : ∀ b, b < w0.heap.size → w.heap[b]? = w0.heap[b]? ∧ ¬ Mut ρ H U b
  os : w.os = w0.os
  tape : w.tape = w0.tape
  output : w.output = w0.output
theorem Old.ext {w0 : World} {ρ ρ' : Nat → Loc} {H H' : Heap} {U U' : Gh} {w w' : World} (O : Old w0 ρ H U w) (X : Ext ρ H U w ρ' H' U' w') : Old w0 ρ' H' U' w' :=
  ⟨Nat.le_trans O.size X.size, fun b hb => by
    obtain ⟨h1, h2⟩ := O.block b hb
    obtain ⟨h3, h4⟩ := X.frame b (Nat.lt_of_lt_of_le hb O.size) h2
    exact ⟨h3.trans h1, h4⟩, X.os.trans O.os, X.tape.trans O.tape, X.output.trans O.output⟩

/-! ### A state that says less -/
section
variable {ρ : Nat → Loc} {H H2 : Heap} {U : Gh} {w : World} {m : Nat → Bool} {J2 : Nat} {nm : AV → AV → Bool}
/-- The names that are kept. -/
def Gh.only (U : Gh) (m : Nat → Bool) (J2 : Nat) : Gh := ⟨fun i => U.use i ∧ m i = true, U.priv, J2, U.N⟩

variable (hH : ∀ i o2, H2.get i = some o2 → ∃ o, H.get i = some o ∧ wkO m nm o o2 = true)
include hH
theorem mut_less {b : Nat} (h : Mut ρ H2 (U.only m J2) b) : Mut ρ H U b := by
  rcases h with ⟨i, o, hi, ho, e⟩ | h
  · obtain ⟨o1, h1, _⟩ := hH i o ho
    exact .inl ⟨i, o1, hi.1, h1, e⟩
  · exact .inr h
theorem rows_less {i sz : Nat} {rs : List (List AV)} (h : H2.get i = some (.rows sz rs)) : ∃ rs1, H.get i = some (.rows sz rs1) ∧ wkR m nm rs1 rs = true := by
  obtain ⟨o, h1, h2⟩ := hH i _ h
  cases o <;> simp only [wkO, Bool.false_eq_true] at h2
  simp only [Bool.and_eq_true] at h2
  have := beqT h2.1
  subst this
  exact ⟨_, h1, h2.2⟩
theorem map_less {i : Nat} {es : List (AV × AV)} (h : H2.get i = some (.map es)) : ∃ es1, H.get i = some (.map es1) ∧ wkE m es1 es = true := by
  obtain ⟨o, h1, h2⟩ := hH i _ h
  cases o <;> simp only [wkO, Bool.false_eq_true] at h2
  exact ⟨_, h1, h2⟩
mutual
theorem RV.less : ∀ (x : AV) (v : Value), inM m x = true → RV ρ H U w x v → RV ρ H2 (U.only m J2) w x v
  | .bool _, _, _, h => h
  | .int _ _, _, _, h => h
  | .str _, _, _, h => h
  | .nilp, _, _, h => h
  | .nils, _, _, h => h
  | .nilm, _, _, h => h
  | .nilf, _, _, h => h
  | .nili, _, _, h => h
  | .e0, _, _, h => h
  | .ptr i r o, v, hm, h => by
    simp only [RV] at h ⊢
    simp only [inM] at hm
    obtain ⟨hi, a, hv, ha⟩ := h
    refine ⟨⟨hi, hm⟩, a, hv, fun sz rs hg => ?_⟩
    obtain ⟨rs1, h1, _⟩ := rows_less hH hg
    exact ha sz rs1 h1
  | .sl i r n, v, hm, h => by
    simp only [RV] at h ⊢
    simp only [inM] at hm
    obtain ⟨hi, a, c, hv, hc, ha⟩ := h
    refine ⟨⟨hi, hm⟩, a, c, hv, hc, fun sz rs hg => ?_⟩
    obtain ⟨rs1, h1, _⟩ := rows_less hH hg
    exact ha sz rs1 h1
  | .map i, v, hm, h => by
    simp only [RV] at h ⊢
    simp only [inM] at hm
    obtain ⟨hi, b, hv, hb⟩ := h
    refine ⟨⟨hi, hm⟩, b, hv, fun es hg => ?_⟩
    obtain ⟨es1, h1, _⟩ := map_less hH hg
    exact hb es1 h1
  | .it i, v, hm, h => by
    simp only [RV] at h ⊢
    simp only [inM] at hm
    obtain ⟨hi, b, hv, hb⟩ := h
    refine ⟨⟨hi, hm⟩, b, hv, fun o hg => ?_⟩
    obtain ⟨o1, h1, _⟩ := hH i o hg
    exact hb o1 h1
  | .fs sz rows, v, hm, h => by
    simp only [RV] at h ⊢
    simp only [inM] at hm
    obtain ⟨hs, a, c, hv, hc, hr⟩ := h
    refine ⟨hs, a, c, hv, hc, fun hne => ?_⟩
    obtain ⟨b, o, ha, hb, hmu, hrs⟩ := hr hne
    exact ⟨b, o, ha, hb, fun hh => hmu (mut_less hH hh), RRs.less sz b rows o hm hrs⟩
  | .fp row o, v, hm, h => by
    simp only [RV] at h ⊢
    simp only [inM] at hm
    obtain ⟨ho, b, o', hv, hb, hmu, hrs⟩ := h
    exact ⟨ho, b, o', hv, hb, fun hh => hmu (mut_less hH hh), RR.less b row o' hm hrs⟩
  | .fn f first caps, v, hm, h => by
    simp only [RV] at h ⊢
    simp only [inM, Bool.and_eq_true] at hm
    obtain ⟨fs, cs, hv, hr1, hr⟩ := h
    exact ⟨fs, cs, hv, RVs.less first _ hm.1 hr1, RVs.less caps _ hm.2 hr⟩
  | .ifc t x, v, hm, h => by
    simp only [RV] at h ⊢
    simp only [inM] at hm
    obtain ⟨u, hv, hr⟩ := h
    exact ⟨u, hv, RV.less x u hm hr⟩
  | .agg cs, v, hm, h => by
    simp only [RV] at h ⊢
    simp only [inM] at hm
    obtain ⟨us, hv, hr⟩ := h
    exact ⟨us, hv, RVs.less cs _ hm hr⟩
  | .tup cs, v, hm, h => by
    simp only [RV] at h ⊢
    simp only [inM] at hm
    obtain ⟨us, hv, hr⟩ := h
    exact ⟨us, hv, RVs.less cs _ hm hr⟩
  | .any, _, _, h => trivial
  | .sy c, v, hm, h => by simp [inM] at hm
  | .op, _, _, h => h
  | .un, _, _, h => h
theorem RVs.less : ∀ (xs : List AV) (vs : List Value), inML m xs = true → RVs ρ H U w xs vs → RVs ρ H2 (U.only m J2) w xs vs
  | [], _, _, h => h
  | x :: xs, vs, hm, h => by
    simp only [RVs] at h ⊢
    simp only [inML, Bool.and_eq_true] at hm
    obtain ⟨v, r, e, h1, h2⟩ := h
    exact ⟨v, r, e, RV.less x v hm.1 h1, RVs.less xs r hm.2 h2⟩
theorem RR.less (b : Nat) : ∀ (row : List AV) (o : Nat), inML m row = true → RR ρ H U w b o row → RR ρ H2 (U.only m J2) w b o row
  | [], _, _, h => trivial
  | x :: xs, o, hm, h => by
    simp only [RR] at h ⊢
    simp only [inML, Bool.and_eq_true] at hm
    obtain ⟨⟨v, hv, hx⟩, hr⟩ := h
    exact ⟨⟨v, hv, RV.less x v hm.1 hx⟩, RR.less b xs (o + 1) hm.2 hr⟩
theorem RRs.less (sz b : Nat) : ∀ (rows : List (List AV)) (o : Nat), inMR m rows = true → RRs ρ H U w sz b o rows → RRs ρ H2 (U.only m J2) w sz b o rows
  | [], _, _, h => trivial
  | row :: rest, o, hm, h => by
    simp only [RRs] at h ⊢
    simp only [inMR, Bool.and_eq_true] at hm
    exact ⟨h.1, RR.less b row o hm.1 h.2.1, RRs.less sz b rest (o + sz) hm.2 h.2.2⟩
end

variable (hnm : ∀ x y v, nm x y = true → RV ρ H U w x v → RV ρ H2 (U.only m J2) w y v)
include hnm
theorem wkV_less {x y : AV} {v : Value} (h : wkV m nm x y = true) (hx : RV ρ H U w x v) : RV ρ H2 (U.only m J2) w y v := by
  unfold wkV at h
  rw [Bool.or_eq_true] at h
  rcases h with h | h
  · exact hnm x y v h hx
  · rw [Bool.and_eq_true] at h
    have := sameV_eq h.1
    subst this
    exact RV.less hH x v h.2 hx
theorem wkL_less {b : Nat} : ∀ {l k : List AV} {o : Nat}, wkL m nm l k = true → RR ρ H U w b o l → l.length = k.length ∧ RR ρ H2 (U.only m J2) w b o k
  | [], [], o, _, h => ⟨rfl, trivial⟩
  | [], _ :: _, o, h, _ => by simp [wkL] at h
  | _ :: _, [], o, h, _ => by simp [wkL] at h
  | x :: l, y :: k, o, h, hr => by
    simp only [wkL, Bool.and_eq_true] at h
    simp only [RR] at hr ⊢
    obtain ⟨⟨v, hv, hx⟩, hr⟩ := hr
    obtain ⟨h1, h2⟩ := wkL_less h.2 hr
    exact ⟨by simp [h1], ⟨v, hv, wkV_less hH hnm h.1 hx⟩, h2⟩
theorem wkR_less {sz b : Nat} : ∀ {l k : List (List AV)} {o : Nat}, wkR m nm l k = true → RRs ρ H U w sz b o l → l.length = k.length ∧ RRs ρ H2 (U.only m J2) w sz b o k
  | [], [], o, _, h => ⟨rfl, trivial⟩
  | [], _ :: _, o, h, _ => by simp [wkR] at h
  | _ :: _, [], o, h, _ => by simp [wkR] at h
  | x :: l, y :: k, o, h, hr => by
    simp only [wkR, Bool.and_eq_true] at h
    simp only [RRs] at hr ⊢
    obtain ⟨h1, h2⟩ := wkL_less hH hnm h.1 hr.2.1
    obtain ⟨h3, h4⟩ := wkR_less h.2 hr.2.2
    exact ⟨by simp [h3], h1.symm.trans hr.1, h2, h4⟩
theorem wkE_less : ∀ {l k : List (AV × AV)} {p : List MapEntry}, wkE m l k = true → MRs ρ H U w l p → l = k ∧ MRs ρ H2 (U.only m J2) w k p
  | [], [], p, _, h => ⟨rfl, h⟩
  | [], _ :: _, p, h, _ => by simp [wkE] at h
  | _ :: _, [], p, h, _ => by simp [wkE] at h
  | x :: l, y :: k, p, h, hr => by
    simp only [wkE, Bool.and_eq_true] at h
    obtain ⟨⟨⟨h1, h2⟩, h3, h4⟩, h5⟩ := h
    obtain ⟨e, r, rfl, g1, g2, g3⟩ := hr
    obtain ⟨k1, k2⟩ := wkE_less h5 g3
    have e1 := sameV_eq h1
    have e2 := sameV_eq h3
    exact ⟨by rw [k1, show x = y from Prod.ext e1 e2], e, r, rfl, e1 ▸ RV.less hH _ _ h2 g1, e2 ▸ RV.less hH _ _ h4 g2, k2⟩

theorem Rel.less (R : Rel ρ H U w) : Rel ρ H2 (U.only m J2) w := by
  refine ⟨fun i o hi ho => ?_, fun i j oi oj hi hj hoi hoj e => ?_, fun b hb => ⟨(R.priv b hb).1, fun i o hi ho => ?_⟩⟩
  · obtain ⟨o1, h1, h2⟩ := hH i o ho
    obtain ⟨_, k2, k3⟩ := R.obj i o1 hi.1 h1
    refine ⟨hi, k2, ?_⟩
    cases o1 <;> cases o <;> simp only [wkO, Bool.false_eq_true] at h2
    · rename_i sz rs sz' rs'
      simp only [Bool.and_eq_true] at h2
      have := beqT h2.1
      subst this
      obtain ⟨g1, cs, t, fr, g2, g3, g4, g5⟩ := k3
      obtain ⟨q1, q2⟩ := wkR_less hH hnm h2.2 g5
      exact ⟨g1, cs, t, fr, g2, g3, by rw [← q1]; exact g4, q2⟩
    · rename_i es es'
      obtain ⟨es0, c, p, g2, g3, g4, g5⟩ := k3
      obtain ⟨q1, q2⟩ := wkE_less hH hnm h2 g4
      subst q1
      exact ⟨es0, c, p, g2, g3, q2, g5⟩
  · obtain ⟨o1, h1, _⟩ := hH i oi hoi
    obtain ⟨o2, h2, _⟩ := hH j oj hoj
    exact R.inj i j o1 o2 hi.1 hj.1 h1 h2 e
  · obtain ⟨o1, h1, _⟩ := hH i o ho
    exact (R.priv b hb).2 i o1 hi.1 h1
end

/-- A state that is covered. -/
theorem SR.less {w0 : World} {ρ : Nat → Loc} {U : Gh} {nt : Nat} {df : List Deferred} {s : St} {a : Act} {w : World} (S : SR ρ U nt df s a w) (O : Old w0 ρ s.H U w) {nm : AV → AV → Bool} {J2 : Nat} {lt : List (Nat × AV)} {lh : List (Nat × AO)} {nx : Nat} (h : covS nm lt lh nx s.T s.H = true)
    (hnm : ∀ x y v, nm x y = true → RV ρ s.H U w x v → RV ρ (mkT lh) (U.only (namesOf lh) J2) w y v) : SR ρ (U.only (namesOf lh) J2) nt df ⟨mkT lt, mkT lh, nx⟩ a w ∧ Old w0 ρ (mkT lh) (U.only (namesOf lh) J2) w := by
  simp only [covS, Bool.and_eq_true] at h
  obtain ⟨⟨h1, h2⟩, h3⟩ := h
  have hH : ∀ i o2, (mkT lh).get i = some o2 → ∃ o, s.H.get i = some o ∧ wkO (namesOf lh) nm o o2 = true := fun i o2 ho => covH_mem h2 i o2 (mkT_get ho)
  refine ⟨⟨fun t x hx => ?_, Rel.less hH hnm S.rel, fun i hi => ?_, S.size, S.defers⟩, ⟨O.size, fun b hb => ⟨(O.block b hb).1, fun hm => (O.block b hb).2 (mut_less hH hm)⟩, O.os, O.tape, O.output⟩⟩
  · obtain ⟨y, hy, hw⟩ := covT_mem h1 t x (mkT_get hx)
    exact wkV_less hH hnm hw (S.tr t y hy)
  · obtain ⟨p, hp, he⟩ := List.any_eq_true.1 hi.2
    have := List.all_eq_true.1 h3 p hp
    have := bleT this
    have := beqT he
    show i < nx
    omega
end Go.Cl
