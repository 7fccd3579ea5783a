/- Drawn regions: the abstract run is sound. -/
import Derived.Test.YtpgdhlnocgfjcaaGreatDoorClDa
set_option linter.unusedSimpArgs false
set_option linter.unusedVariables false
set_option linter.unusedSectionVars false
namespace Go.Cl

/-! ### What is listed -/
def lst (listed : Array Bool) : Nat → Bool := fun i => listed.getD i false
def cntF : List Bool → Nat
  | [] => 0
  | b :: l => (bif b then 0 else 1) + cntF l
theorem cntF_set : ∀ {l : List Bool} {i : Nat}, l[i]? = some false → cntF (l.set i true) + 1 = cntF l
  | [], i, h => by simp at h
  | b :: l, 0, h => by
    simp only [List.getElem?_cons_zero, Option.some.injEq] at h
    subst h
    simp only [List.set_cons_zero, cntF, cond_true, cond_false]
    omega
  | b :: l, i + 1, h => by
    simp only [List.getElem?_cons_succ] at h
    have := cntF_set h
    simp only [List.set_cons_succ, cntF]
    omega
theorem cntF_zero : ∀ {l : List Bool}, cntF l = 0 → ∀ i : Nat, l[i]? ≠ some false
  | [], _, i => by simp
  | b :: l, h, i => by
    simp only [cntF] at h
    have h1 : (bif b then 0 else 1) = 0 := by omega
    have h2 : cntF l = 0 := by omega
    cases b with
    | false => simp at h1
    | true =>
      cases i with
      | zero => simp
      | succ i => simpa using cntF_zero h2 i
def cnt (listed : Array Bool) : Nat := cntF listed.toList
theorem cnt_le (listed : Array Bool) : cnt listed ≤ listed.size := by
  have key : ∀ l : List Bool, cntF l ≤ l.length := by
    intro l
    induction l with
    | nil => simp [cntF]
    | cons b l ih => cases b <;> simp [cntF] <;> omega
  simpa [cnt] using key listed.toList
theorem lst_false {listed : Array Bool} {i : Nat} (hi : i < listed.size) : lst listed i = false ↔ listed[i]? = some false := by
  simp [lst, Array.getD_eq_getD_getElem?, hi]
theorem lst_set {listed : Array Bool} {i : Nat} (hi : i < listed.size) : lst (listed.setIfInBounds i true) = more (lst listed) i := by
  funext j
  by_cases hj : j = i
  · subst hj
    rw [more_iff.2 (.inl rfl)]
    simp [lst, Array.getD_eq_getD_getElem?, hi]
  · have h1 : more (lst listed) i j = lst listed j := by simp [more, beq_false hj]
    rw [h1]
    simp only [lst, Array.getD_eq_getD_getElem?]
    rw [Array.getElem?_setIfInBounds_ne (fun e => hj e.symm)]
theorem cnt_set {listed : Array Bool} {i : Nat} (hi : i < listed.size) (h : lst listed i = false) : cnt (listed.setIfInBounds i true) + 1 = cnt listed := by
  have := (lst_false hi).1 h
  unfold cnt
  rw [Array.toList_setIfInBounds]
  exact cntF_set (by simpa using this)

theorem ready_iff {ops : Array Oper} {listed : Array Bool} (hs : listed.size = ops.size) {i : Nat} :
    i ∈ Region.ready .any ops listed ↔ i < ops.size ∧ lst listed i = false ∧ ∃ o, ops[i]? = some o ∧ ∀ e ∈ o.after.toList, Region.binds .any e = true → lst listed e.on = true := by
  unfold Region.ready
  rw [List.mem_filter, List.mem_range]
  refine and_congr_right fun hi => ?_
  have hg : listed.getD i true = lst listed i := by simp [lst, Array.getD_eq_getD_getElem?, hs, hi]
  rw [hg, Array.getElem?_eq_getElem hi]
  simp only [Option.map_some, Option.getD_some, Bool.and_eq_true, Bool.not_eq_true', Option.some.injEq, exists_eq_left']
  refine and_congr_right fun _ => ?_
  rw [← Array.all_toList, List.all_eq_true]
  refine forall_congr' fun e => forall_congr' fun he => ?_
  cases Region.binds .any e <;> simp [lst]
theorem ready_none {ops : Array Oper} {listed : Array Bool} (hs : listed.size = ops.size) (h : ∀ i, i < ops.size → lst listed i = true) : Region.ready .any ops listed = [] := by
  rw [List.eq_nil_iff_forall_not_mem]
  intro i hi
  obtain ⟨h1, h2, _⟩ := (ready_iff hs).1 hi
  rw [h i h1] at h2
  cases h2
theorem none_ready {ops : Array Oper} {listed : Array Bool} (hs : listed.size = ops.size) (hlt : ∀ i o, ops[i]? = some o → ∀ e ∈ o.after.toList, Region.binds .any e = true → e.on < i)
    (h : Region.ready .any ops listed = []) : ∀ i, i < ops.size → lst listed i = true := by
  intro i
  induction i using Nat.strongRecOn with
  | _ i ih =>
    intro hi
    cases hl : lst listed i with
    | true => rfl
    | false =>
      exfalso
      have ho : ops[i]? = some ops[i] := Array.getElem?_eq_getElem hi
      have : i ∈ Region.ready .any ops listed := (ready_iff hs).2 ⟨hi, hl, _, ho, fun e he hb => ih e.on (hlt i _ ho e he hb) (Nat.lt_trans (hlt i _ ho e he hb) hi)⟩
      rw [h] at this
      cases this

theorem wpAnyIn_nil {F : Fence} {n : Nat} {P : Program} {ops : Array Oper} {Q : Exit → Act → World → Prop} {fuel : Nat} {listed : Array Bool} {a : Act} {w : World} (h : wpAnyIn F n P .any ops Q fuel listed a w) (hr : Region.ready .any ops listed = []) : Q .normal a w := by
  cases fuel with
  | zero => exact h.2
  | succ fuel => exact h.1 hr

/-! ### Checks -/
theorem again_mem {E : Env} {ops : Array Oper} {s : St} : ∀ {L : List Rec}, againAll E ops s L = true → ∀ q ∈ L, againOk E ops s q = true
  | [], _, q, hq => by cases hq
  | q0 :: L, h, q, hq => by
    simp only [againAll, Bool.and_eq_true] at h
    rcases List.mem_cons.1 hq with rfl | hq
    · exact h.1
    · exact again_mem h.2 q hq
theorem beside_mem {ops : Array Oper} {o : Oper} {d : Nat} : ∀ {L : List Rec}, beside ops o d L = true → ∀ q ∈ L, (bit d q.i = true ∨ dstIn q.o.dst (looksAt ops o) = false) ∧ dstSame q.o.dst o.dst = false ∧ dstIn o.dst (looksAt ops q.o) = false
  | [], _, q, hq => by cases hq
  | q0 :: L, h, q, hq => by
    simp only [beside, Bool.and_eq_true, Bool.or_eq_true, Bool.not_eq_true'] at h
    rcases List.mem_cons.1 hq with rfl | hq
    · exact ⟨h.1.1.1, h.1.1.2, h.1.2⟩
    · exact beside_mem h.2 q hq
theorem openL_mem {d : Nat} : ∀ {L : List Rec} {q : Rec}, q ∈ openL d L ↔ q ∈ L ∧ bit d q.i = false
  | [], q => by simp [openL]
  | q0 :: L, q => by
    simp only [openL]
    cases hb : bit d q0.i with
    | true =>
      rw [cond_true, openL_mem, List.mem_cons]
      constructor
      · rintro ⟨h1, h2⟩; exact ⟨.inr h1, h2⟩
      · rintro ⟨rfl | h1, h2⟩
        · rw [hb] at h2; cases h2
        · exact ⟨h1, h2⟩
    | false =>
      rw [cond_false, List.mem_cons, openL_mem, List.mem_cons]
      constructor
      · rintro (rfl | ⟨h1, h2⟩)
        · exact ⟨.inl rfl, hb⟩
        · exact ⟨.inr h1, h2⟩
      · rintro ⟨rfl | h1, h2⟩
        · exact .inl rfl
        · exact .inr ⟨h1, h2⟩
theorem barrier_mem {C : Nat} : ∀ (os : List Oper) (k : Nat) (dl : List Nat), barrier C (zops os k) dl = true → ∀ j, j < os.length → bit C (k + j) = true ∨ within C (dl.getD j 0) = true
  | [], k, dl, h, j, hj => by simp at hj
  | o :: os, k, [], h, j, hj => by simp [zops, barrier] at h
  | o :: os, k, d :: dl, h, j, hj => by
    simp only [zops, barrier, Bool.and_eq_true, Bool.or_eq_true] at h
    cases j with
    | zero => simpa using h.1
    | succ j =>
      have := barrier_mem os (k + 1) dl h.2 j (by simpa using hj)
      rw [show k + 1 + j = k + (j + 1) by omega] at this
      simpa using this
theorem barrier_spec {C : Nat} {ops : Array Oper} {ds : List Nat} (h : barrier C (zops ops.toList 0) ds = true) {i : Nat} (hi : i < ops.size) (hc : bit C i = false) : ∀ j, bit C j = true → bit (ds.getD i 0) j = true := by
  have := barrier_mem ops.toList 0 ds h i (by simpa using hi)
  rw [Nat.zero_add, hc] at this
  rcases this with h | h
  · cases h
  · exact within_iff.1 h
theorem nextEff_some {C : Nat} : ∀ {zs : List (Oper × Nat)} {o : Oper} {i : Nat}, nextEff C zs = some (o, i) → (o, i) ∈ zs ∧ bit C i = false
  | [], o, i, h => by simp [nextEff] at h
  | (o', i') :: zs, o, i, h => by
    simp only [nextEff] at h
    rw [Bool.cond_eq_ite] at h
    split at h
    · rename_i hb
      simp only [Option.some.injEq, Prod.mk.injEq] at h
      obtain ⟨rfl, rfl⟩ := h
      simp only [Bool.and_eq_true, Bool.not_eq_true'] at hb
      exact ⟨by simp, hb.1⟩
    · obtain ⟨h1, h2⟩ := nextEff_some h
      exact ⟨by simp [h1], h2⟩
theorem nextEff_none {C : Nat} : ∀ {zs : List (Oper × Nat)}, nextEff C zs = none → ∀ o i, (o, i) ∈ zs → bit C i = false → within (depsM o) C = false
  | [], h, o, i, hm, _ => by cases hm
  | (o', i') :: zs, h, o, i, hm, hc => by
    simp only [nextEff] at h
    rw [Bool.cond_eq_ite] at h
    split at h
    · cases h
    · rename_i hb
      rcases List.mem_cons.1 hm with e | hm
      · obtain ⟨rfl, rfl⟩ := Prod.mk.injEq .. ▸ e
        cases hw : within (depsM o) C with
        | false => rfl
        | true => simp [hc, hw] at hb
      · exact nextEff_none h o i hm hc
theorem blocked_mem {C i : Nat} : ∀ {zs : List (Oper × Nat)}, blocked C i zs = true → ∀ o j, (o, j) ∈ zs → bit C j = false → within (depsM o) C = true → j = i
  | [], h, o, j, hm, _, _ => by cases hm
  | (o', j') :: zs, h, o, j, hm, hc, hw => by
    simp only [blocked, Bool.and_eq_true, Bool.or_eq_true, Bool.not_eq_true'] at h
    rcases List.mem_cons.1 hm with e | hm
    · cases e
      rcases h.1 with (h1 | h1) | h1
      · rw [hc] at h1; cases h1
      · exact (beqT h1).symm
      · rw [hw] at h1; cases h1
    · exact blocked_mem h.2 o j hm hc hw
theorem allIn_mem {C : Nat} : ∀ {zs : List (Oper × Nat)}, allIn C zs = true → ∀ o j, (o, j) ∈ zs → bit C j = true
  | [], h, o, j, hm => by cases hm
  | (o', j') :: zs, h, o, j, hm => by
    simp only [allIn, Bool.and_eq_true] at h
    rcases List.mem_cons.1 hm with e | hm
    · cases e; exact h.1
    · exact allIn_mem h.2 o j hm

theorem putA_get {nt : Nat} {T T' : Tr AV} {dst : Option Nat} {x : AV} (h : putA nt T dst x = some T') : (∀ t, dst = some t → t < nt ∧ T'.get t = some x) ∧ ∀ t, dst ≠ some t → T'.get t = T.get t := by
  unfold putA at h
  cases dst with
  | none =>
    simp only [Option.some.injEq] at h
    subst h
    exact ⟨fun t h => (by cases h), fun _ _ => rfl⟩
  | some d =>
    simp only at h
    rw [Bool.cond_eq_ite] at h
    split at h <;> cases h
    rename_i hb
    refine ⟨fun t e => ?_, fun t hne => ?_⟩
    · cases e
      exact ⟨bleT hb, by rw [Tr.get_set, if_pos rfl]⟩
    · rw [Tr.get_set, if_neg (fun e => hne (by rw [e]))]
theorem opA_T {E : Env} {call : CallA} {nt : Nat} {ops : Array Oper} {o : Oper} {s s' : St} (h : opA E call nt ops o s = some s') : ∃ x, putA nt s.T o.dst x = some s'.T := by
  unfold opA at h
  split at h
  · split at h
    case h_2 => cases h
    split at h <;> cases h
    rename_i hp
    exact ⟨_, hp⟩
  · split at h <;> cases h
    rename_i hp
    exact ⟨_, hp⟩
  · cases h
theorem dstSame_comm {a b : Option Tmp} (h : dstSame a b = false) : dstSame b a = false := by
  cases a <;> cases b <;> simp only [dstSame] at h ⊢
  rename_i x y
  cases hb : Nat.beq y x with
  | false => rfl
  | true => rw [beqT hb, beq_true] at h; cases h

section
variable {P : Program} {E : Env} (hE : E.Ok P) {call : CallA} (hc : CallOk P call) {nt n0 : Nat} {ops : Array Oper} {r : Option Nat} {df : List Deferred}
variable {B : (Nat → Loc) → Heap → Gh → Nat → World → Prop} {Q : Exit → Act → World → Prop}

/-- All that is taken is listed: nothing is owed. -/
theorem Inv.drop {C : Nat} {L : List Rec} {s : St} {X : Nat → Bool} {ρ : Nat → Loc} {U : Gh} {a : Act} {w : World} {ds : List Nat} (LI : LInv ops ds C L s nt n0) (I : Inv ops C L s nt df B X ρ U a w) (h : ∀ j, bit C j = true → X j = true) : Inv ops C [] s nt df B X ρ U a w := by
  refine ⟨I.closed, I.sub, fun i hi hb hx => ?_, fun t x hx ht => I.tr t x hx fun hm => ?_, I.rel, I.bound, I.size, I.defers, fun q hq => (by cases hq), I.base⟩
  · rw [h i hb] at hx; cases hx
  · obtain ⟨q, h1, h2, _⟩ := owedD_iff.1 hm
    rw [h _ (LI.op q h1).2.1] at h2
    cases h2
theorem LInv.nil {ds : List Nat} {C : Nat} {s : St} : LInv ops ds C [] s nt n0 :=
  ⟨fun q h => (by cases h), fun q h => (by cases h), fun q h => (by cases h), fun q h => (by cases h), fun q h => (by cases h), fun q h => (by cases h), fun q h => (by cases h)⟩

include hE
/-- A node: what is owed goes on, till something else does, or all is done. -/
theorem node_sound (hB : ∀ ρ H U nx w ρ' H' U' nx' w', B ρ H U nx w → Ext ρ H U w ρ' H' U' w' → (nx ≤ nx' ∧ ∀ i, U' i → U i ∨ (n0 ≤ i ∧ i < nx')) → B ρ' H' U' nx' w')
    (hlt : ∀ i o, ops[i]? = some o → ∀ e ∈ o.after.toList, Region.binds .any e = true → e.on < i) {C : Nat} {L : List Rec} {s : St}
    (LI : LInv ops (downs ops.toList []) C L s nt n0) (h0 : n0 ≤ s.nx) (ha : againAll E ops s L = true)
    (hout : ∀ fuel listed ρ U a w, listed.size = ops.size → cnt listed ≤ fuel + 1 → Inv ops C L s nt df B (lst listed) ρ U a w → ∀ i o, ops[i]? = some o → bit C i = false → lst listed i = false → (∀ e ∈ o.after.toList, Region.binds .any e = true → lst listed e.on = true) →
      wpOpIn (Fz r) 0 P ops Q i (wpAnyIn (Fz r) 0 P .any ops Q fuel (listed.setIfInBounds i true)) a w)
    (hend : ∀ listed ρ U a w, listed.size = ops.size → Inv ops C L s nt df B (lst listed) ρ U a w → (∀ i, i < ops.size → lst listed i = true) → Q .normal a w) :
    ∀ fuel listed ρ U a w, listed.size = ops.size → cnt listed ≤ fuel → Inv ops C L s nt df B (lst listed) ρ U a w → wpAnyIn (Fz r) 0 P .any ops Q fuel listed a w := by
  intro fuel
  induction fuel with
  | zero =>
    intro listed ρ U a w hs hf I
    have hall : ∀ i, i < ops.size → lst listed i = true := by
      intro i hi
      cases hl : lst listed i with
      | true => rfl
      | false =>
        exfalso
        have h1 := (lst_false (by omega)).1 hl
        exact cntF_zero (l := listed.toList) (by unfold cnt at hf; omega) i (by simpa using h1)
    exact ⟨ready_none hs hall, hend listed ρ U a w hs I hall⟩
  | succ fuel ih =>
    intro listed ρ U a w hs hf I
    refine ⟨fun hr => hend listed ρ U a w hs I (none_ready hs hlt hr), fun i hi => ?_⟩
    obtain ⟨hi, hX, o, ho, hr⟩ := (ready_iff hs).1 hi
    cases hb : bit C i with
    | false => exact hout fuel listed ρ U a w hs hf I i o ho hb hX hr
    | true =>
      obtain ⟨q, hq, rfl⟩ := I.owed i hi hb hX
      have hoq := (LI.op q hq).1
      rw [ho] at hoq
      cases hoq
      unfold wpOpIn
      simp only [ho]
      refine owed_step hE hB LI I hq hX hr (down_closed I.closed hlt q.i q.o ho hr) (again_mem ha q hq) h0 fun a' w' ρ' U' I' => ?_
      have hc2 := cnt_set (show q.i < listed.size by omega) hX
      refine ih (listed.setIfInBounds q.i true) ρ' U' a' w' (by simpa using hs) (by omega) ?_
      rw [lst_set (by omega)]
      exact I'

omit hE in
/-- One that is no effect is taken: nothing runs. -/
theorem take_sound (hB : ∀ ρ H U nx w ρ' H' U' nx' w', B ρ H U nx w → Ext ρ H U w ρ' H' U' w' → (nx ≤ nx' ∧ ∀ i, U' i → U i ∨ (n0 ≤ i ∧ i < nx')) → B ρ' H' U' nx' w')
    {ds : List Nat} {C : Nat} {L : List Rec} {s : St} (LI : LInv ops ds C L s nt n0) (h0 : n0 ≤ s.nx) {o : Oper} {i : Nat} (ho : ops[i]? = some o) (hb : bit C i = false) (he : isEff o.op = false)
    {y : AV} {H' : Heap} {nx' : Nat} (hev : evalR E ops o s s.nx = some (y, H', nx')) {T' : Tr AV} (hp : putA nt s.T o.dst y = some T') (hbe : beside ops o (ds.getD i 0) L = true) (hself : dstIn o.dst (looksAt ops o) = false) :
    LInv ops ds (plus C i) (⟨i, o, y, s.nx, Nat.beq nx' (s.nx + 1)⟩ :: L) ⟨T', H', nx'⟩ nt n0 ∧ s.nx ≤ nx' ∧
    ∀ X ρ U a w, Inv ops C L s nt df B X ρ U a w → Inv ops (plus C i) (⟨i, o, y, s.nx, Nat.beq nx' (s.nx + 1)⟩ :: L) ⟨T', H', nx'⟩ nt df B X ρ U a w := by
  obtain ⟨p1, p2⟩ := putA_get hp
  have hst := evalR_stays he hev
  have hnx : s.nx ≤ nx' := by
    rcases hst with ⟨_, h⟩ | ⟨_, _, h⟩ <;> omega
  have hne : ∀ q ∈ L, q.i ≠ i := fun q hq e => by
    have := (LI.op q hq).2.1
    rw [e, hb] at this
    cases this
  refine ⟨⟨?_, ?_, ?_, ?_, ?_, ?_, ?_⟩, hnx, ?_⟩
  · intro q hq
    rcases List.mem_cons.1 hq with rfl | hq
    · exact ⟨ho, (bit_plus C i i).2 (.inl rfl), he, hself⟩
    · obtain ⟨o1, o2, o3, o4⟩ := LI.op q hq
      exact ⟨o1, (bit_plus C i q.i).2 (.inr o2), o3, o4⟩
  · intro q hq q' hq' hqq
    rcases List.mem_cons.1 hq with rfl | hq
    · rcases List.mem_cons.1 hq' with rfl | hq'
      · exact absurd rfl hqq
      · obtain ⟨b1, b2, b3⟩ := beside_mem hbe q' hq'
        exact ⟨b1, dstSame_comm b2⟩
    · rcases List.mem_cons.1 hq' with rfl | hq'
      · obtain ⟨b1, b2, b3⟩ := beside_mem hbe q hq
        exact ⟨.inr b3, b2⟩
      · exact LI.sep q hq q' hq' hqq
  · intro q hq q' hq' hqq
    rcases List.mem_cons.1 hq with rfl | hq
    · rcases List.mem_cons.1 hq' with rfl | hq'
      · rfl
      · exact absurd hqq.symm (hne q' hq')
    · rcases List.mem_cons.1 hq' with rfl | hq'
      · exact absurd hqq (hne q hq)
      · exact LI.one q hq q' hq' hqq
  · intro q hq hf
    rcases List.mem_cons.1 hq with rfl | hq
    · have := beqT hf
      exact ⟨h0, by simp only; omega⟩
    · have := LI.low q hq hf
      exact ⟨this.1, Nat.lt_of_lt_of_le this.2 hnx⟩
  · intro q hq t ht
    rcases List.mem_cons.1 hq with rfl | hq
    · exact (p1 t ht).1
    · exact LI.lt q hq t ht
  · intro q hq q' hq' hf hf' hqq
    rcases List.mem_cons.1 hq with rfl | hq
    · rcases List.mem_cons.1 hq' with rfl | hq'
      · exact absurd rfl hqq
      · have := (LI.low q' hq' hf').2
        exact fun e => by simp only at e; omega
    · rcases List.mem_cons.1 hq' with rfl | hq'
      · have := (LI.low q hq hf).2
        exact fun e => by simp only at e; omega
      · exact LI.names q hq q' hq' hf hf' hqq
  · intro q hq t ht
    rcases List.mem_cons.1 hq with rfl | hq
    · exact (p1 t ht).2
    · have := LI.val q hq t ht
      show T'.get t = some q.y
      rw [p2 t (fun e => ?_)]
      · exact this
      · exact dstSame_false (beside_mem hbe q hq).2.1 ht e
  · intro X ρ U a w I
    have hlen := (Array.getElem?_eq_some_iff.1 ho).1
    have hXi : X i = false := by
      cases hx : X i with
      | false => rfl
      | true =>
        have := I.sub i hlen hx
        rw [hb] at this
        cases this
    have hU : ¬ U s.nx := I.bound.not
    have eqg : ∀ j, U j → H'.get j = s.H.get j := by
      intro j hj
      rcases hst with ⟨h, _⟩ | ⟨ob, h, _⟩
      · rw [h]
      · rw [h, Tr.get_set, if_neg (fun e : j = s.nx => hU (e ▸ hj))]
    have X2 : Ext ρ s.H U w ρ H' U w := Ext.ofGet eqg
    refine ⟨I.closed, fun j hj hx => (bit_plus C i j).2 (.inr (I.sub j hj hx)), fun j hj hbj hx => ?_, fun t x hx ht => ?_, Rel.ofGet eqg I.rel, fun j hj => Nat.lt_of_lt_of_le (I.bound j hj) hnx, I.size, I.defers, fun q hq hf hx => ?_, hB _ _ _ _ _ _ _ _ _ _ I.base X2 ⟨hnx, fun j hj => .inl hj⟩⟩
    · rcases (bit_plus C i j).1 hbj with rfl | hbj
      · exact ⟨_, List.mem_cons_self .., rfl⟩
      · obtain ⟨q, h1, h2⟩ := I.owed j hj hbj hx
        exact ⟨q, List.mem_cons_of_mem _ h1, h2⟩
    · have hnd : o.dst ≠ some t := fun e => ht (owedD_iff.2 ⟨_, List.mem_cons_self .., hXi, e⟩)
      have hno : t ∉ owedD X L := fun hm => by
        obtain ⟨q, h1, h2, h3⟩ := owedD_iff.1 hm
        exact ht (owedD_iff.2 ⟨q, List.mem_cons_of_mem _ h1, h2, h3⟩)
      rw [show (⟨T', H', nx'⟩ : St).T.get t = s.T.get t from p2 t hnd] at hx
      exact RV.mono X2.toExt0 _ _ (I.tr t x hx hno)
    · rcases List.mem_cons.1 hq with rfl | hq
      · exact hU
      · exact I.ph q hq hf hx

/-- A pass: nothing runs, but behind a barrier. -/
theorem pass_sound (hB : ∀ ρ H U nx w ρ' H' U' nx' w', B ρ H U nx w → Ext ρ H U w ρ' H' U' w' → (nx ≤ nx' ∧ ∀ i, U' i → U i ∨ (n0 ≤ i ∧ i < nx')) → B ρ' H' U' nx' w')
    (hlt : ∀ i o, ops[i]? = some o → ∀ e ∈ o.after.toList, Region.binds .any e = true → e.on < i) {C1 : Nat} {L1 : List Rec} {s1 : St}
    (cont : LInv ops (downs ops.toList []) C1 L1 s1 nt n0 → n0 ≤ s1.nx → ∀ fuel listed ρ U a w, listed.size = ops.size → cnt listed ≤ fuel → Inv ops C1 L1 s1 nt df B (lst listed) ρ U a w → wpAnyIn (Fz r) 0 P .any ops Q fuel listed a w) :
    ∀ (rest : List (Oper × Nat)) (C : Nat) (L : List Rec) (s : St), (∀ o i, (o, i) ∈ rest → ops[i]? = some o) → passA E nt ops (zops ops.toList 0) (downs ops.toList []) rest C L s = some (C1, L1, s1) → LInv ops (downs ops.toList []) C L s nt n0 → n0 ≤ s.nx →
    ∀ fuel listed ρ U a w, listed.size = ops.size → cnt listed ≤ fuel → Inv ops C L s nt df B (lst listed) ρ U a w → wpAnyIn (Fz r) 0 P .any ops Q fuel listed a w := by
  intro rest
  induction rest with
  | nil =>
    intro C L s _ h LI h0
    simp only [passA, Option.some.injEq, Prod.mk.injEq] at h
    obtain ⟨rfl, rfl, rfl⟩ := h
    exact cont LI h0
  | cons z rest ih =>
    obtain ⟨o, i⟩ := z
    intro C L s hz h LI h0
    have hz' : ∀ o i, (o, i) ∈ rest → ops[i]? = some o := fun o i hm => hz o i (List.mem_cons_of_mem _ hm)
    have ho := hz o i (List.mem_cons_self ..)
    simp only [passA] at h
    rw [Bool.cond_eq_ite] at h
    split at h
    · exact ih C L s hz' h LI h0
    · rename_i hcond
      simp only [Bool.or_eq_true, not_or, Bool.not_eq_true, Bool.not_eq_true', Bool.not_eq_false] at hcond
      obtain ⟨⟨hb, he⟩, _⟩ := hcond
      split at h
      case h_2 => cases h
      rename_i Ld hd
      split at h
      case h_2 => cases h
      rename_i y H' nx' hev
      split at h
      case h_2 => cases h
      rename_i T' hp
      rw [Bool.cond_eq_ite] at h
      split at h
      case isFalse => cases h
      rename_i hck
      simp only [Bool.and_eq_true, Bool.not_eq_true'] at hck
      have go : LInv ops (downs ops.toList []) C Ld s nt n0 → ∀ fuel listed ρ U a w, listed.size = ops.size → cnt listed ≤ fuel → Inv ops C Ld s nt df B (lst listed) ρ U a w → wpAnyIn (Fz r) 0 P .any ops Q fuel listed a w := by
        intro LD fuel listed ρ U a w hs hf I
        obtain ⟨t1, t2, t3⟩ := take_sound (B := B) hB LD h0 ho hb he hev hp hck.1 hck.2
        exact ih _ _ _ hz' h t1 (Nat.le_trans h0 t2) fuel listed ρ U a w hs hf (t3 _ _ _ _ _ I)
      unfold dropA at hd
      split at hd
      · cases hd
        exact go LI
      · rename_i q0 L0
        rw [Bool.cond_eq_ite] at hd
        split at hd
        · rename_i hbar
          rw [Bool.cond_eq_ite] at hd
          split at hd <;> cases hd
          rename_i hag
          refine node_sound hE hB hlt LI h0 hag (fun fuel listed ρ U a w hs hf I j oj hoj hbj hXj hr => ?_) (fun listed ρ U a w hs I hall => ?_)
          · have hlen := (Array.getElem?_eq_some_iff.1 hoj).1
            have hdn := down_closed I.closed hlt j oj hoj hr
            have I' := I.drop LI fun k hk => hdn k (barrier_spec hbar hlen hbj k hk)
            exact (go LInv.nil (fuel + 1) listed ρ U a w hs hf I').2 j ((ready_iff hs).2 ⟨hlen, hXj, oj, hoj, hr⟩)
          · have hlen := (Array.getElem?_eq_some_iff.1 ho).1
            have hx := I.sub i hlen (hall i hlen)
            rw [hb] at hx
            cases hx
        · cases hd
          exact go LI

include hc
/-- The stages. -/
theorem stage_sound (hB : ∀ ρ H U nx w ρ' H' U' nx' w', B ρ H U nx w → Ext ρ H U w ρ' H' U' w' → (nx ≤ nx' ∧ ∀ i, U' i → U i ∨ (n0 ≤ i ∧ i < nx')) → B ρ' H' U' nx' w')
    (hlt : ∀ i o, ops[i]? = some o → ∀ e ∈ o.after.toList, Region.binds .any e = true → e.on < i) {s' : St}
    (hQ : ∀ a' w' ρ' U', SR ρ' U' nt df s' a' w' → B ρ' s'.H U' s'.nx w' → Q .normal a' w') :
    ∀ (n C : Nat) (L : List Rec) (s : St), stageA E call nt ops (zops ops.toList 0) (downs ops.toList []) n C L s = some s' → LInv ops (downs ops.toList []) C L s nt n0 → n0 ≤ s.nx →
    ∀ fuel listed ρ U a w, listed.size = ops.size → cnt listed ≤ fuel → Inv ops C L s nt df B (lst listed) ρ U a w → wpAnyIn (Fz r) 0 P .any ops Q fuel listed a w := by
  intro n
  induction n with
  | zero => intro C L s h; simp [stageA] at h
  | succ n ih =>
    intro C L s h LI h0
    simp only [stageA] at h
    split at h
    case h_2 => cases h
    rename_i C1 L1 s1 hpass
    refine pass_sound hE hB hlt (fun LI1 h1 => ?_) _ C L s (fun o i hm => zops_iff.1 hm) hpass LI h0
    rw [Bool.cond_eq_ite] at h
    split at h
    case isFalse => cases h
    rename_i hag
    have inw : ∀ {listed : Array Bool} {ρ U a w}, listed.size = ops.size → Inv ops C1 L1 s1 nt df B (lst listed) ρ U a w → ∀ {o : Oper} {i : Nat}, ops[i]? = some o → (∀ e ∈ o.after.toList, Region.binds .any e = true → lst listed e.on = true) → within (depsM o) C1 = true := by
      intro listed ρ U a w hs I o i ho hr
      rw [within_iff]
      intro j hj
      obtain ⟨e, h1, h2, rfl⟩ := edgesM_iff.1 hj
      have hlen := (Array.getElem?_eq_some_iff.1 ho).1
      exact I.sub e.on (Nat.lt_trans (hlt i o ho e h1 h2) hlen) (hr e h1 h2)
    cases hn : nextEff C1 (zops ops.toList 0) with
    | none =>
      simp only [hn] at h
      rw [Bool.cond_eq_ite] at h
      split at h <;> cases h
      rename_i hall
      refine node_sound hE hB hlt LI1 h1 hag (fun fuel listed ρ U a w hs hf I j oj hoj hbj hXj hr => ?_) (fun listed ρ U a w hs I hl => ?_)
      · have := allIn_mem hall oj j (zops_iff.2 hoj)
        rw [hbj] at this
        cases this
      · refine hQ a w ρ U ⟨fun t x hx => I.tr t x hx fun hm => ?_, I.rel, I.bound, I.size, I.defers⟩ I.base
        obtain ⟨q, h1, h2, _⟩ := owedD_iff.1 hm
        have hlen := (Array.getElem?_eq_some_iff.1 (LI1.op q h1).1).1
        rw [hl _ hlen] at h2
        cases h2
    | some p =>
      obtain ⟨o, i⟩ := p
      simp only [hn] at h
      rw [Bool.cond_eq_ite] at h
      split at h
      case isFalse => cases h
      rename_i hck
      simp only [Bool.and_eq_true] at hck
      obtain ⟨hbl, hbe⟩ := hck
      split at h
      case h_2 => cases h
      rename_i s2 hop
      obtain ⟨hm, hbi⟩ := nextEff_some hn
      have ho := zops_iff.1 hm
      have hlen := (Array.getElem?_eq_some_iff.1 ho).1
      refine node_sound hE hB hlt LI1 h1 hag (fun fuel listed ρ U a w hs hf I j oj hoj hbj hXj hr => ?_) (fun listed ρ U a w hs I hl => ?_)
      · have hji : j = i := blocked_mem hbl oj j (zops_iff.2 hoj) hbj (inw hs I hoj hr)
        subst hji
        rw [ho] at hoj
        cases hoj
        have hdn := down_closed I.closed hlt j o ho hr
        -- what may be owed
        have key : ∀ L2 : List Rec, LInv ops (downs ops.toList []) C1 L2 s1 nt n0 → Inv ops C1 L2 s1 nt df B (lst listed) ρ U a w → beside ops o ((downs ops.toList []).getD j 0) (openL ((downs ops.toList []).getD j 0) L2) = true →
            stageA E call nt ops (zops ops.toList 0) (downs ops.toList []) n (plus C1 j) (openL ((downs ops.toList []).getD j 0) L2) s2 = some s' →
            wpOpIn (Fz r) 0 P ops Q j (wpAnyIn (Fz r) 0 P .any ops Q fuel (listed.setIfInBounds j true)) a w := by
          intro L2 LI2 I2 hbe h
          unfold wpOpIn
          simp only [ho]
          have hop2 : ∀ q ∈ L2, lst listed q.i = false → q ∈ openL ((downs ops.toList []).getD j 0) L2 := by
            intro q hq hx
            refine openL_mem.2 ⟨hq, ?_⟩
            cases hb : bit ((downs ops.toList []).getD j 0) q.i with
            | false => rfl
            | true => rw [hdn _ hb] at hx; cases hx
          refine opA_part hE hc hop I2.tr (fun t ht hm => ?_) I2.rel I2.bound I2.size I2.defers fun a' w' ρ' U' k1 k2 k3 k4 k5 k6 k7 => ?_
          · obtain ⟨q, g1, g2, g3⟩ := owedD_iff.1 hm
            have hq := hop2 q g1 g2
            rcases (beside_mem hbe q hq).1 with hb | hb
            · rw [hdn _ hb] at g2; cases g2
            · exact dstIn_false hb g3 ht
          · obtain ⟨x, hp⟩ := opA_T hop
            obtain ⟨p1, p2⟩ := putA_get hp
            have sub : ∀ q, q ∈ openL ((downs ops.toList []).getD j 0) L2 → q ∈ L2 := fun q hq => (openL_mem.1 hq).1
            have LI3 : LInv ops (downs ops.toList []) (plus C1 j) (openL ((downs ops.toList []).getD j 0) L2) s2 nt n0 := by
              refine ⟨fun q hq => ?_, fun q hq q' hq' => LI2.sep q (sub q hq) q' (sub q' hq'), fun q hq q' hq' => LI2.one q (sub q hq) q' (sub q' hq'), fun q hq hf => ?_, fun q hq => LI2.lt q (sub q hq), fun q hq q' hq' => LI2.names q (sub q hq) q' (sub q' hq'), fun q hq t ht => ?_⟩
              · obtain ⟨o1, o2, o3, o4⟩ := LI2.op q (sub q hq)
                exact ⟨o1, (bit_plus C1 j q.i).2 (.inr o2), o3, o4⟩
              · have := LI2.low q (sub q hq) hf
                exact ⟨this.1, Nat.lt_of_lt_of_le this.2 k7.1⟩
              · rw [p2 t (dstSame_false (beside_mem hbe q hq).2.1 ht)]
                exact LI2.val q (sub q hq) t ht
            have hc2 := cnt_set (show j < listed.size by omega) hXj
            refine ih _ _ s2 h LI3 (Nat.le_trans h1 k7.1) fuel _ ρ' U' a' w' (by simpa using hs) (by omega) ?_
            rw [lst_set (by omega)]
            refine ⟨more_closed I2.closed ho hr, fun k hk hx => ?_, fun k hk hb hx => ?_, fun t x hx ht => k1 t x hx fun hm => ?_, k2, k3, k4, k5, fun q hq hf hx hU => ?_, hB _ _ _ _ _ _ _ _ _ _ I2.base k6 ⟨k7.1, fun k hk => ?_⟩⟩
            · rcases more_iff.1 hx with rfl | hx
              · exact (bit_plus C1 k k).2 (.inl rfl)
              · exact (bit_plus C1 j k).2 (.inr (I2.sub k hk hx))
            · obtain ⟨m1, m2⟩ := more_false.1 hx
              rcases (bit_plus C1 j k).1 hb with e | hb
              · exact absurd e m1
              · obtain ⟨q, g1, rfl⟩ := I2.owed k hk hb m2
                exact ⟨q, hop2 q g1 m2, rfl⟩
            · obtain ⟨q, g1, g2, g3⟩ := owedD_iff.1 hm
              refine ht (owedD_iff.2 ⟨q, hop2 q g1 g2, more_false.2 ⟨fun e => ?_, g2⟩, g3⟩)
              have := (LI2.op q g1).2.1
              rw [e, hbi] at this
              cases this
            · obtain ⟨m1, m2⟩ := more_false.1 hx
              have hl := (LI2.low q (sub q hq) hf)
              rcases k7.2 _ hU with g | g
              · exact I2.ph q (sub q hq) hf m2 g
              · omega
            · rcases k7.2 k hk with g | g
              · exact .inl g
              · exact .inr ⟨Nat.le_trans h1 g.1, g.2⟩
        cases hbar : barrier C1 (zops ops.toList 0) (downs ops.toList []) with
        | true =>
          simp only [hbar, cond_true] at hbe h
          exact key [] LInv.nil (I.drop LI1 fun k hk => hdn k (barrier_spec hbar hlen hbi k hk)) hbe h
        | false =>
          simp only [hbar, cond_false] at hbe h
          exact key L1 LI1 I hbe h
      · have := I.sub i hlen (hl i hlen)
        rw [hbi] at this
        cases this

omit hE hc in
/-- One more draw. -/
theorem drew_ext {ρ : Nat → Loc} {H : Heap} {U : Gh} {w : World} : Ext ρ H U w ρ H U { w with drawn := w.drawn + 1 } :=
  ⟨⟨fun _ h => h, fun i _ o' h => ⟨o', h, rfl, fun sz rs' e => ⟨⟨rs', e⟩, rfl⟩, fun es e => ⟨es, e⟩⟩, fun _ _ h => ⟨rfl, h⟩, Nat.le_refl _, rfl, rfl, rfl, rfl, rfl⟩, fun _ h => ⟨rfl, h⟩⟩
omit hE hc in
theorem drew_rel {ρ : Nat → Loc} {H : Heap} {U : Gh} {w : World} (R : Rel ρ H U w) : Rel ρ H U { w with drawn := w.drawn + 1 } :=
  ⟨fun i o hi ho => ⟨(R.obj i o hi ho).1, (R.obj i o hi ho).2.1, ORel.mono drew_ext.toExt0 rfl o (R.obj i o hi ho).2.2⟩, R.inj, R.priv⟩

/-- Drawn regions. -/
theorem drawA_ok (hm : P.follows .mixedOrders = true) : DrawOk P (drawA E call) := by
  intro nt ops s s' h r id df ρ U a w Q S hK
  unfold drawA at h
  rw [Bool.cond_eq_ite] at h
  split at h
  case isFalse => cases h
  rename_i hst
  refine wpIn_region_any hm ?_
  have hlt := static_lt hst
  refine stage_sound (B := fun ρ' H' U' nx' w' => Ext ρ s.H U w ρ' H' U' w' ∧ Grow U s.nx U' nx') (n0 := s.nx) hE hc (fun ρ1 H1 U1 nx1 w1 ρ2 H2 U2 nx2 w2 hb X G => ⟨hb.1.trans X, Nat.le_trans hb.2.1 G.1, fun i hi => ?_⟩) hlt (fun a' w' ρ' U' S' hb => hK a' w' ρ' U' S' hb.1 hb.2) (ops.size + 1) 0 [] s h LInv.nil (Nat.le_refl _) ops.size (Array.replicate ops.size false) ρ U a _ (by simp) (Nat.le_trans (cnt_le _) (by simp)) ?_
  · have g1 := G.1
    rcases G.2 i hi with h1 | h1
    · rcases hb.2.2 i h1 with h2 | h2
      · exact .inl h2
      · exact .inr ⟨h2.1, by omega⟩
    · exact .inr h1
  · have hl : ∀ i, lst (Array.replicate ops.size false) i = false := by
      intro i
      simp only [lst, Array.getD_eq_getD_getElem?, Array.getElem?_replicate]
      split <;> rfl
    refine ⟨fun i o hx => ?_, fun i _ hx => ?_, fun i _ hb => ?_, fun t x hx _ => RV.mono drew_ext.toExt0 _ _ (S.tr t x hx), drew_rel S.rel, S.bound, S.size, S.defers, fun q hq => (by cases hq), drew_ext, Grow.refl _ _⟩
    · rw [hl] at hx; cases hx
    · rw [hl] at hx; cases hx
    · rw [bit_zero] at hb; cases hb
end
end Go.Cl
