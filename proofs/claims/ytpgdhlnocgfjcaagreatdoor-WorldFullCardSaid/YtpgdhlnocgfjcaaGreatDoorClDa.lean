/- Drawn regions: what is owed may run at any time. -/
import Derived.Test.YtpgdhlnocgfjcaaGreatDoorClCz
set_option linter.unusedSimpArgs false
set_option linter.unusedVariables false
set_option linter.unusedSectionVars false
namespace Go.Cl

section
variable {P : Program} {E : Env} (hE : E.Ok P) {call : CallA} (hc : CallOk P call) {ρ : Nat → Loc} {U : Gh} {w : World} {nt n0 : Nat} {ops : Array Oper} {r : Option Nat} {df : List Deferred}
variable {ds : List Nat} {C : Nat} {L : List Rec} {s : St} {X : Nat → Bool} {a : Act} {B : (Nat → Loc) → Heap → Gh → Nat → World → Prop}

theorem evalR_stays {o : Oper} (he : isEff o.op = false) {nx : Nat} {y : AV} {H' : Heap} {nx' : Nat} (h : evalR E ops o s nx = some (y, H', nx')) : Stays s.H nx H' nx' := by
  unfold evalR at h
  split at h
  · exact operA_stays he h
  · cases h; exact .inl ⟨rfl, rfl⟩
  · cases h

/-- What an operation looks at is there. -/
theorem looks_free (LI : LInv ops ds C L s nt n0) {q : Rec} (hq : q ∈ L) (hd : ∀ j, bit (ds.getD q.i 0) j = true → X j = true) : ∀ t ∈ looksAt ops q.o, t ∉ owedD X L := by
  intro t ht hm
  obtain ⟨q', h1, h2, h3⟩ := owedD_iff.1 hm
  by_cases hi : q.i = q'.i
  · have := LI.one q hq q' h1 hi
    subst this
    exact dstIn_false (LI.op q hq).2.2.2 h3 ht
  · rcases (LI.sep q hq q' h1 hi).1 with h | h
    · rw [hd _ h] at h2; cases h2
    · exact dstIn_false h h3 ht

include hE
theorem owed_step (hB : ∀ ρ H U nx w ρ' H' U' nx' w', B ρ H U nx w → Ext ρ H U w ρ' H' U' w' → (nx ≤ nx' ∧ ∀ i, U' i → U i ∨ (n0 ≤ i ∧ i < nx')) → B ρ' H' U' nx' w')
    (LI : LInv ops ds C L s nt n0) (I : Inv ops C L s nt df B X ρ U a w) {q : Rec} (hq : q ∈ L) (hX : X q.i = false) (hr : ∀ e ∈ q.o.after.toList, Region.binds .any e = true → X e.on = true) (hd : ∀ j, bit (ds.getD q.i 0) j = true → X j = true)
    (ha : againOk E ops s q = true) (h0 : n0 ≤ s.nx) {K : Act → World → Prop} {Q : Exit → Act → World → Prop} (hK : ∀ a' w' ρ' U', Inv ops C L s nt df B (more X q.i) ρ' U' a' w' → K a' w') :
    if Region.wanted q.o (yielded ops a.tmps) then q.o.wpIn (Fz r) 0 P a w K Q else (∀ f, q.o.about P w a.eval = some f → (Fz r).fn f) ∧ K (a.put q.o.dst undef) w := by
  obtain ⟨o1, o2, o3, o4⟩ := LI.op q hq
  unfold againOk at ha
  split at ha
  case h_2 => cases ha
  rename_i y H' nx' hev
  simp only [Bool.and_eq_true] at ha
  obtain ⟨hy, ha⟩ := ha
  have hy := sameV_eq hy
  subst hy
  have hst := evalR_stays o3 hev
  -- the name, and the heap behind
  have facts : ¬ U (bif q.fresh then q.r else s.nx) ∧ (∀ j, H'.get j = s.H.get j) ∧ (∀ U' : Gh, Grow U (bif q.fresh then q.r else s.nx) U' nx' → (∀ i, U' i → U i ∨ (q.fresh = true ∧ i = q.r))) := by
    cases hf : q.fresh with
    | false =>
      simp only [hf, cond_false] at ha hst hev ⊢
      have := beqT ha
      subst this
      rcases hst with ⟨h1, _⟩ | ⟨o, _, h2⟩
      · refine ⟨I.bound.not, fun j => by rw [h1], fun U' hG i hi => ?_⟩
        rcases hG.2 i hi with h | h
        · exact .inl h
        · omega
      · omega
    | true =>
      simp only [hf, cond_true, Bool.and_eq_true] at ha hst hev ⊢
      have h1 := beqT ha.1
      have h2 := sameO_eq ha.2
      refine ⟨I.ph q hq hf hX, fun j => ?_, fun U' hG i hi => ?_⟩
      · rcases hst with ⟨h3, _⟩ | ⟨o, h3, _⟩
        · rw [h3]
        · by_cases hj : j = q.r
          · rw [hj]; exact h2
          · rw [h3, Tr.get_set, if_neg hj]
      · rcases hG.2 i hi with h | h
        · exact .inl h
        · exact .inr ⟨trivial, by omega⟩
  obtain ⟨f1, f2, f3⟩ := facts
  refine owed_sound hE hev o3 f1 I.tr (looks_free LI hq hd) I.rel fun v w' ρ' U' k1 k2 k3 k4 => ?_
  have fU := f3 U' k4
  have eqg : ∀ i, U' i → s.H.get i = H'.get i := fun i _ => (f2 i).symm
  have X2 : Ext ρ s.H U w ρ' s.H U' w' := k3.trans (Ext.ofGet eqg)
  have hv : RV ρ' s.H U' w' q.y v := RV.mono (Ext0.ofGet eqg) _ _ k1
  have hg : s.nx ≤ s.nx ∧ ∀ i, U' i → U i ∨ (n0 ≤ i ∧ i < s.nx) := ⟨Nat.le_refl _, fun i hi => by
    rcases fU i hi with h | ⟨h1, h2⟩
    · exact .inl h
    · subst h2; exact .inr (LI.low q hq h1)⟩
  have hsz : (a.put q.o.dst v).tmps.size = nt := by cases hd : q.o.dst <;> simp [Act.put, I.size]
  have hdf : (a.put q.o.dst v).defers = df := by cases hd : q.o.dst <;> simp [Act.put, I.defers]
  refine hK _ w' ρ' U' ⟨more_closed I.closed o1 hr, fun i hi hm => ?_, fun i hi hb hm => ?_, fun t x hx ht => ?_, Rel.ofGet eqg k2, fun i hi => ?_, hsz, hdf, fun q' hq' hf' hm hU' => ?_, hB _ _ _ _ _ _ _ _ _ _ I.base X2 hg⟩
  · rcases more_iff.1 hm with rfl | hm
    · exact o2
    · exact I.sub i hi hm
  · exact I.owed i hi hb (more_false.1 hm).2
  · -- a temporary
    by_cases hdst : q.o.dst = some t
    · have hxv := LI.val q hq t hdst
      rw [hxv] at hx
      cases hx
      have htl := LI.lt q hq t hdst
      have : (a.put q.o.dst v).tmps.getD t undef = v := by
        rw [hdst]
        simp [Act.put, show t < a.tmps.size by rw [I.size]; exact htl]
      rw [this]
      exact hv
    · have hno : t ∉ owedD X L := by
        intro hm
        obtain ⟨q', h1, h2, h3⟩ := owedD_iff.1 hm
        refine ht (owedD_iff.2 ⟨q', h1, more_false.2 ⟨fun e => ?_, h2⟩, h3⟩)
        have := LI.one q' h1 q hq e
        subst this
        exact hdst h3
      have hget : (a.put q.o.dst v).tmps.getD t undef = a.tmps.getD t undef := by
        cases hd2 : q.o.dst with
        | none => rfl
        | some d =>
          have hne : d ≠ t := fun e => hdst (by rw [hd2, e])
          simp only [Act.put, Array.getD_eq_getD_getElem?]
          rw [Array.getElem?_setIfInBounds_ne hne]
      rw [hget]
      exact RV.mono X2.toExt0 _ _ (I.tr t x hx hno)
  · rcases fU i hi with h | ⟨h1, h2⟩
    · exact I.bound i h
    · subst h2; exact (LI.low q hq h1).2
  · obtain ⟨m1, m2⟩ := more_false.1 hm
    rcases fU _ hU' with h | ⟨h1, h2⟩
    · exact I.ph q' hq' hf' m2 h
    · exact LI.names q' hq' q hq hf' h1 m1 h2
end
end Go.Cl
