/- The fast machine says what the abstract machine says: regions, bodies, calls. -/
import Derived.Test.YtpgdhlnocgfjcaaGreatDoorClEb
set_option linter.unusedSimpArgs false
set_option linter.unusedVariables false
set_option linter.unusedSectionVars false
namespace Go.Cl

def CallSpec (cc : CallC) (call : CallA) : Prop := ∀ f args H nx (k : K3), cc f args H nx k = true → ∃ y H' nx', call f args H nx = some (y, H', nx') ∧ k y H' nx' = true

theorem ceB_none {op : Op} (h : ceB op = .none) (T : Tr AV) : callee op T = none := by
  unfold ceB at h
  unfold callee
  split at h
  · rename_i c
    split at h
    · cases h
    · cases h
    · rename_i hne1 hne2
      show (match c.callee with | .value f => (match evalA T f with | .fn g first caps => some (g, first ++ c.args.toList.map (evalA T) ++ caps) | _ => none) | _ => none) = none
      split
      · rename_i f hf
        exact (hne2 f hf).elim
      · rfl
  · rename_i hne
    split
    · rename_i c
      exact (hne c rfl).elim
    · rfl
theorem ceB_known {op : Op} {g : Nat} {args : List RB} (h : ceB op = .known g args) (T : Tr AV) : ∃ os, args = rdL os ∧ callee op T = some (g, os.map (evalA T)) := by
  unfold ceB at h
  split at h
  · rename_i c
    split at h
    · rename_i g' hg
      simp only [CeB.known.injEq] at h
      obtain ⟨rfl, rfl⟩ := h
      exact ⟨c.args.toList, rfl, by simp only [callee, hg, evalA, List.nil_append, List.append_nil]⟩
    · cases h
    · cases h
  · cases h
theorem ceB_value {op : Op} {f : RB} {args : List RB} (h : ceB op = .value f args) (T : Tr AV) : ∃ fo os, f = rd fo ∧ args = rdL os ∧ callee op T = (match evalA T fo with | .fn g first caps => some (g, first ++ os.map (evalA T) ++ caps) | _ => none) := by
  unfold ceB at h
  split at h
  · rename_i c
    split at h
    · cases h
    · rename_i f' hne hg
      simp only [CeB.value.injEq] at h
      obtain ⟨rfl, rfl⟩ := h
      exact ⟨f', c.args.toList, rfl, rfl, by simp only [callee, hg]; rfl⟩
    · cases h
  · cases h

section
variable {E : Env} {cc : CallC} {call : CallA} (hc : CallSpec cc call) {nt : Nat} {ops : Array Oper}
include hc

theorem actB_spec {o : Oper} {T : Tr AV} {H : Heap} {nx : Nat} {k : KS} (hw : wantedA ops T o = some true) (h : (actB E nt o).run cc T H nx k = true) : ∃ s', opA E call nt ops o ⟨T, H, nx⟩ = some s' ∧ k s'.T s'.H s'.nx = true := by
  unfold actB at h
  split at h
  · rename_i hce
    split at h
    · rename_i f p hf hp
      obtain ⟨x, H', nx', h1, h2⟩ := nop_spec (E := E) (o := o.op) (T := T) (H := H) (nx := nx) (k := fun x H' nx' => p x T fun T' => k T' H' nx') (by rw [hf]; exact h)
      obtain ⟨T', h3, h4⟩ := putB_spec hp h2
      exact ⟨⟨T', H', nx'⟩, by simp only [opA, hw, ceB_none hce T, h1, h3], h4⟩
    · cases h
  · rename_i g args hce
    obtain ⟨os, rfl, hcal⟩ := ceB_known hce T
    obtain ⟨x, H', nx', h1, h2⟩ := hc _ _ _ _ _ (rds_spec h)
    obtain ⟨T', h3, h4⟩ := putC_spec h2
    exact ⟨⟨T', H', nx'⟩, by simp only [opA, hw, hcal, h1, h3], h4⟩
  · rename_i f args hce
    obtain ⟨fo, os, rfl, rfl, hcal⟩ := ceB_value hce T
    have h := rd_spec h
    split at h
    · rename_i g first caps he
      simp only [he] at hcal
      have h := rds_spec h
      rw [fL_eq] at h
      obtain ⟨x, H', nx', h1, h2⟩ := hc _ _ _ _ _ h
      obtain ⟨T', h3, h4⟩ := putC_spec h2
      exact ⟨⟨T', H', nx'⟩, by simp only [opA, hw, hcal, h1, h3], h4⟩
    · rename_i hne
      have hcal : callee o.op T = none := by
        rw [hcal]
        split
        · rename_i g first caps he
          exact (hne g first caps he).elim
        · rfl
      obtain ⟨x, H', nx', h1, h2⟩ := nop_spec h
      obtain ⟨T', h3, h4⟩ := putC_spec h2
      exact ⟨⟨T', H', nx'⟩, by simp only [opA, hw, hcal, h1, h3], h4⟩

theorem cop_spec {o : Oper} {T : Tr AV} {H : Heap} {nx : Nat} {k : KS} (h : (cop E nt ops o).run cc T H nx k = true) : ∃ s', opA E call nt ops o ⟨T, H, nx⟩ = some s' ∧ k s'.T s'.H s'.nx = true := by
  have skip : ∀ {h : putC nt o.dst (.tup []) T (fun T' => k T' H nx) = true}, wantedA ops T o = some false → ∃ s', opA E call nt ops o ⟨T, H, nx⟩ = some s' ∧ k s'.T s'.H s'.nx = true := by
    intro h hw
    obtain ⟨T', h3, h4⟩ := putC_spec h
    exact ⟨⟨T', H, nx⟩, by simp only [opA, hw, h3], h4⟩
  unfold cop at h
  split at h
  · rename_i hg
    exact actB_spec hc (by simp only [wantedA, hg]) h
  · rename_i j want hg
    split at h
    · rename_i d hd
      have h := gpT_get h
      split at h
      · rename_i b hx
        rw [Bool.cond_eq_ite] at h
        split at h
        · rename_i hb
          exact actB_spec hc (by simp only [wantedA, hg, hd, hx, hb]) h
        · rename_i hb
          exact skip (h := h) (by simp only [wantedA, hg, hd, hx]; simpa using hb)
      · rename_i hx
        exact skip (h := h) (by simp only [wantedA, hg, hd, hx])
      · cases h
    · rename_i hd
      exact skip (h := h) (by simp only [wantedA, hg, hd])

theorem opsC_spec : ∀ {l : List Oper} {T : Tr AV} {H : Heap} {nx : Nat} {k : KS}, opsC (cops E nt ops l) cc T H nx k = true → ∃ s', opsA E call nt ops l ⟨T, H, nx⟩ = some s' ∧ k s'.T s'.H s'.nx = true
  | [], T, H, nx, k, h => ⟨⟨T, H, nx⟩, rfl, h⟩
  | o :: l, T, H, nx, k, h => by
    have h1 : (cop E nt ops o).run cc T H nx (fun T' H' nx' => opsC (cops E nt ops l) cc T' H' nx' k) = true := h
    obtain ⟨s1, g1, g2⟩ := cop_spec hc h1
    obtain ⟨s', g3, g4⟩ := opsC_spec g2
    exact ⟨s', by simp only [opsA, g1]; exact g3, g4⟩

omit hc in
theorem evB_spec {o : Oper} {T : Tr AV} {H : Heap} {nx nx0 : Nat} {k : K3} (h : (evB E ops o).run T H nx k = true) : ∃ x H' nx', evalR E ops o ⟨T, H, nx0⟩ nx = some (x, H', nx') ∧ k x H' nx' = true := by
  unfold evB at h
  split at h
  · rename_i hg
    obtain ⟨x, H', nx', h1, h2⟩ := nop_spec h
    exact ⟨x, H', nx', by simp only [evalR, wantedA, hg, h1], h2⟩
  · rename_i j want hg
    split at h
    · rename_i d hd
      have h := gpT_get h
      split at h
      · rename_i b hx
        rw [Bool.cond_eq_ite] at h
        split at h
        · rename_i hb
          obtain ⟨x, H', nx', h1, h2⟩ := nop_spec h
          exact ⟨x, H', nx', by simp only [evalR, wantedA, hg, hd, hx, hb, h1], h2⟩
        · rename_i hb
          have hb : (b == want) = false := by simpa using hb
          exact ⟨_, _, _, by simp only [evalR, wantedA, hg, hd, hx, hb], h⟩
      · rename_i hx
        exact ⟨_, _, _, by simp only [evalR, wantedA, hg, hd, hx], h⟩
      · cases h
    · rename_i hd
      exact ⟨_, _, _, by simp only [evalR, wantedA, hg, hd], h⟩

omit hc in
theorem againC1_spec {q : Rec} {T : Tr AV} {H : Heap} {nx : Nat} (h : againC1 E ops T H nx q = true) : againOk E ops ⟨T, H, nx⟩ q = true := by
  obtain ⟨i, o, y, r, fresh⟩ := q
  unfold againC1 at h
  cases fresh with
  | false =>
    obtain ⟨x, H', nx', h1, h2⟩ := evB_spec (nx0 := nx) h
    simp only [againOk, cond_false, h1]
    exact h2
  | true =>
    obtain ⟨x, H', nx', h1, h2⟩ := evB_spec (nx0 := nx) h
    simp only [againOk, cond_true, h1]
    exact h2
omit hc in
theorem againC_spec {T : Tr AV} {H : Heap} {nx : Nat} : ∀ {L : List Rec}, againC E ops T H nx L = true → againAll E ops ⟨T, H, nx⟩ L = true
  | [], h => rfl
  | q :: L, h => by
    cases hq : againC1 E ops T H nx q with
    | false =>
      have h1 : (Bool.rec (motive := fun _ => Bool) false (againC E ops T H nx L) (againC1 E ops T H nx q)) = true := h
      rw [hq] at h1
      cases h1
    | true =>
      have h1 : (Bool.rec (motive := fun _ => Bool) false (againC E ops T H nx L) (againC1 E ops T H nx q)) = true := h
      rw [hq] at h1
      simp only [againAll, againC1_spec hq, Bool.true_and]
      exact againC_spec h1

/-! ### The plan -/
def skel (L : List Rec) : List Rec := L.map fun q => ⟨q.i, q.o, .any, 0, false⟩
omit hc in
theorem beside_skel {o : Oper} {d : Nat} : ∀ {L : List Rec}, beside ops o d (skel L) = beside ops o d L
  | [] => rfl
  | q :: L => by
    show ((bit d q.i || !(dstIn q.o.dst (looksAt ops o))) && !(dstSame q.o.dst o.dst) && !(dstIn o.dst (looksAt ops q.o)) && beside ops o d (skel L)) = _
    rw [beside_skel (L := L)]
    rfl
omit hc in
theorem openL_skel {d : Nat} : ∀ {L : List Rec}, openL d (skel L) = skel (openL d L)
  | [] => rfl
  | q :: L => by
    show (bif bit d q.i then openL d (skel L) else ⟨q.i, q.o, .any, 0, false⟩ :: openL d (skel L)) = _
    rw [openL_skel (L := L)]
    simp only [openL]
    cases bit d q.i <;> rfl

omit hc in
theorem exec_again {st : Stp} {L L' : List Rec} {T : Tr AV} {H : Heap} {nx : Nat} {k : KS} (h : (Bool.rec (motive := fun _ => Bool) false (execS E cc nt ops st L' T H nx k) (againC E ops T H nx L)) = true) :
    againAll E ops ⟨T, H, nx⟩ L = true ∧ execS E cc nt ops st L' T H nx k = true := by
  cases hq : againC E ops T H nx L with
  | false => rw [hq] at h; cases h
  | true => rw [hq] at h; exact ⟨againC_spec hq, h⟩

omit hc in
theorem pass_spec {zs : List (Oper × Nat)} {ds : List Nat} {pk : Nat → List Rec → Stp} {k : KS} : ∀ (rest : List (Oper × Nat)) (C : Nat) (L : List Rec) (T : Tr AV) (H : Heap) (nx : Nat),
    execS E cc nt ops (planPass ops zs ds rest C (skel L) pk) L T H nx k = true → ∃ C1 L1 s1, passA E nt ops zs ds rest C L ⟨T, H, nx⟩ = some (C1, L1, s1) ∧ execS E cc nt ops (pk C1 (skel L1)) L1 s1.T s1.H s1.nx k = true
  | [], C, L, T, H, nx, h => ⟨C, L, ⟨T, H, nx⟩, rfl, h⟩
  | (o, i) :: rest, C, L, T, H, nx, h => by
    simp only [planPass, passA] at h ⊢
    cases hb : (bit C i || isEff o.op || !(within (depsM o) C)) with
    | true =>
      simp only [hb, cond_true] at h ⊢
      exact pass_spec rest C L T H nx h
    | false =>
      simp only [hb, cond_false] at h ⊢
      -- what is taken
      have take : ∀ (L : List Rec), execS E cc nt ops (bif beside ops o (ds.getD i 0) (skel L) && !(dstIn o.dst (looksAt ops o)) then .take o i (planPass ops zs ds rest (plus C i) (⟨i, o, .any, 0, false⟩ :: skel L) pk) else .bad) L T H nx k = true →
          ∃ C1 L1 s1, (match evalR E ops o ⟨T, H, nx⟩ nx with
            | some (y, H', nx') => match putA nt T o.dst y with
              | some T' => bif beside ops o (ds.getD i 0) L && !(dstIn o.dst (looksAt ops o)) then passA E nt ops zs ds rest (plus C i) (⟨i, o, y, nx, Nat.beq nx' (nx + 1)⟩ :: L) ⟨T', H', nx'⟩ else none
              | none => none
            | none => none) = some (C1, L1, s1) ∧ execS E cc nt ops (pk C1 (skel L1)) L1 s1.T s1.H s1.nx k = true := by
        intro L h
        rw [beside_skel] at h
        cases hb2 : (beside ops o (ds.getD i 0) L && !(dstIn o.dst (looksAt ops o))) with
        | false => rw [hb2] at h; cases h
        | true =>
          rw [hb2, cond_true] at h
          have h1 : (evB E ops o).run T H nx (fun y H' nx' => putC nt o.dst y T fun T' => execS E cc nt ops (planPass ops zs ds rest (plus C i) (⟨i, o, .any, 0, false⟩ :: skel L) pk) (⟨i, o, y, nx, Nat.beq nx' (nx + 1)⟩ :: L) T' H' nx' k) = true := h
          obtain ⟨y, H', nx', g1, g2⟩ := evB_spec (nx0 := nx) h1
          obtain ⟨T', g3, g4⟩ := putC_spec g2
          obtain ⟨C1, L1, s1, g5, g6⟩ := pass_spec rest (plus C i) (⟨i, o, y, nx, Nat.beq nx' (nx + 1)⟩ :: L) T' H' nx' g4
          exact ⟨C1, L1, s1, by simp only [g1, g3, cond_true, g5], g6⟩
      cases L with
      | nil => exact take [] h
      | cons q L =>
        have h0 : execS E cc nt ops (bif barrier C zs ds then .drop (bif beside ops o (ds.getD i 0) (skel []) && !(dstIn o.dst (looksAt ops o)) then .take o i (planPass ops zs ds rest (plus C i) (⟨i, o, .any, 0, false⟩ :: skel []) pk) else .bad)
          else (bif beside ops o (ds.getD i 0) (skel (q :: L)) && !(dstIn o.dst (looksAt ops o)) then .take o i (planPass ops zs ds rest (plus C i) (⟨i, o, .any, 0, false⟩ :: skel (q :: L)) pk) else .bad)) (q :: L) T H nx k = true := h
        simp only [dropA]
        cases hbar : barrier C zs ds with
        | true =>
          simp only [hbar, cond_true] at h0 ⊢
          obtain ⟨g1, g2⟩ := exec_again (st := (bif beside ops o (ds.getD i 0) (skel []) && !(dstIn o.dst (looksAt ops o)) then .take o i (planPass ops zs ds rest (plus C i) (⟨i, o, .any, 0, false⟩ :: skel []) pk) else .bad)) h0
          simp only [g1, cond_true]
          exact take [] g2
        | false =>
          simp only [hbar, cond_false] at h0 ⊢
          exact take (q :: L) h0

theorem stage_spec {zs : List (Oper × Nat)} {ds : List Nat} {k : KS} : ∀ (n C : Nat) (L : List Rec) (T : Tr AV) (H : Heap) (nx : Nat),
    execS E cc nt ops (planStage ops zs ds n C (skel L)) L T H nx k = true → ∃ s', stageA E call nt ops zs ds n C L ⟨T, H, nx⟩ = some s' ∧ k s'.T s'.H s'.nx = true
  | 0, C, L, T, H, nx, h => by cases h
  | n + 1, C, L, T, H, nx, h => by
    simp only [planStage] at h
    obtain ⟨C1, L1, s1, g1, g2⟩ := pass_spec zs C L T H nx h
    obtain ⟨g3, g4⟩ := exec_again (L := L1) g2
    obtain ⟨T1, H1, nx1⟩ := s1
    simp only [stageA, g1, g3, cond_true]
    cases hn : nextEff C1 zs with
    | none =>
      simp only [hn] at g4 ⊢
      cases ha : allIn C1 zs with
      | false => rw [ha] at g4; cases g4
      | true =>
        rw [ha] at g4
        exact ⟨_, rfl, g4⟩
    | some p =>
      obtain ⟨o, i⟩ := p
      simp only [hn] at g4 ⊢
      have eff : ∀ (L : List Rec), execS E cc nt ops (.eff o (ds.getD i 0) (planStage ops zs ds n (plus C1 i) (skel (openL (ds.getD i 0) L)))) L T1 H1 nx1 k = true →
          ∃ s', (match opA E call nt ops o ⟨T1, H1, nx1⟩ with | some s2 => stageA E call nt ops zs ds n (plus C1 i) (openL (ds.getD i 0) L) s2 | none => none) = some s' ∧ k s'.T s'.H s'.nx = true := by
        intro L h
        have h1 : (cop E nt ops o).run cc T1 H1 nx1 (fun T' H' nx' => execS E cc nt ops (planStage ops zs ds n (plus C1 i) (skel (openL (ds.getD i 0) L))) (openL (ds.getD i 0) L) T' H' nx' k) = true := h
        obtain ⟨s2, k1, k2⟩ := cop_spec hc h1
        obtain ⟨s', k3, k4⟩ := stage_spec n _ _ _ _ _ k2
        exact ⟨s', by simp only [k1]; exact k3, k4⟩
      cases hbar : barrier C1 zs ds with
      | true =>
        simp only [hbar, cond_true] at g4 ⊢
        cases hb : (blocked C1 i zs && beside ops o (ds.getD i 0) (openL (ds.getD i 0) [])) with
        | false => rw [hb] at g4; cases g4
        | true =>
          rw [hb, cond_true] at g4
          simp only [cond_true]
          exact eff [] g4
      | false =>
        simp only [hbar, cond_false] at g4 ⊢
        rw [openL_skel, beside_skel] at g4
        cases hb : (blocked C1 i zs && beside ops o (ds.getD i 0) (openL (ds.getD i 0) L1)) with
        | false => rw [hb] at g4; cases g4
        | true =>
          rw [hb, cond_true] at g4
          simp only [cond_true]
          exact eff L1 g4

theorem draw_spec {T : Tr AV} {H : Heap} {nx : Nat} {k : KS} (h : execS E cc nt ops (planOf ops) [] T H nx k = true) : ∃ s', drawA E call nt ops ⟨T, H, nx⟩ = some s' ∧ k s'.T s'.H s'.nx = true := by
  unfold planOf at h
  unfold drawA
  cases hs : staticOk ops with
  | false => rw [hs] at h; cases h
  | true =>
    rw [hs, cond_true] at h
    obtain ⟨s', g1, g2⟩ := stage_spec hc (ops.size + 1) 0 [] T H nx h
    exact ⟨s', by simpa using g1, g2⟩

theorem xb_spec : ∀ (n : Nat) (c : Code) (T : Tr AV) (H : Heap) (nx : Nat) (k : KX), (xb E nt c).run cc n T H nx k = true → ∃ e s', codeA E call (drawA E call) nt n c ⟨T, H, nx⟩ = some (e, s') ∧ k e s'.T s'.H s'.nx = true := by
  intro n
  induction n with
  | zero =>
    intro c T H nx k h
    cases c <;> first | (cases h; done) | skip
    rename_i id ops draw
    cases draw <;> cases h
  | succ n ih =>
    intro c T H nx k h
    cases c
    case skip => exact ⟨_, _, rfl, h⟩
    case ret => exact ⟨_, _, rfl, h⟩
    case exit id => exact ⟨_, _, rfl, h⟩
    case region id ops draw =>
      cases draw with
      | false =>
        obtain ⟨s', g1, g2⟩ := opsC_spec hc (E := E) (nt := nt) (ops := ops) h
        exact ⟨_, s', by simp only [codeA, g1], g2⟩
      | true =>
        obtain ⟨s', g1, g2⟩ := draw_spec hc (E := E) (nt := nt) (ops := ops) h
        exact ⟨_, s', by simp only [codeA, g1], g2⟩
    case seq a b =>
      obtain ⟨e, s1, g1, g2⟩ := ih a T H nx _ h
      cases e with
      | normal =>
        obtain ⟨e', s', g3, g4⟩ := ih b _ _ _ _ g2
        exact ⟨e', s', by simp only [codeA, g1]; exact g3, g4⟩
      | exit id => exact ⟨_, s1, by simp only [codeA, g1], g2⟩
      | ret => exact ⟨_, s1, by simp only [codeA, g1], g2⟩
    case cond x a b =>
      obtain ⟨b', he, h⟩ := avBool_spec (rd_spec (o := x) h)
      cases b' with
      | true =>
        obtain ⟨e, s', g1, g2⟩ := ih a T H nx k h
        exact ⟨e, s', by simp only [codeA, he]; exact g1, g2⟩
      | false =>
        obtain ⟨e, s', g1, g2⟩ := ih b T H nx k h
        exact ⟨e, s', by simp only [codeA, he]; exact g1, g2⟩
    case block id b =>
      obtain ⟨e, s1, g1, g2⟩ := ih b T H nx _ h
      cases e with
      | normal => exact ⟨_, s1, by simp only [codeA, g1], g2⟩
      | ret => exact ⟨_, s1, by simp only [codeA, g1], g2⟩
      | exit id' =>
        cases hb : Nat.beq id' id with
        | true => simp only [hb] at g2; exact ⟨_, s1, by simp only [codeA, g1, hb, cond_true], g2⟩
        | false => simp only [hb] at g2; exact ⟨_, s1, by simp only [codeA, g1, hb, cond_false], g2⟩
    case loop b =>
      obtain ⟨e, s1, g1, g2⟩ := ih b T H nx _ h
      cases e with
      | normal =>
        obtain ⟨e', s', g3, g4⟩ := ih (.loop b) _ _ _ _ g2
        exact ⟨e', s', by simp only [codeA, g1]; exact g3, g4⟩
      | exit id => exact ⟨_, s1, by simp only [codeA, g1], g2⟩
      | ret => exact ⟨_, s1, by simp only [codeA, g1], g2⟩
    all_goals cases h

omit hc in
theorem argsC_spec : ∀ (l : List AV) (i : Nat) (T : Tr AV) (k : Tr AV → Bool), argsC l i T k = true → k (argsT l i T) = true
  | [], i, T, k, h => h
  | x :: l, i, T, k, h => by
    have h1 : spT x (paOf 40 i) T (fun T' => argsC l (Nat.succ i) T' k) = true := h
    exact argsC_spec l (i + 1) _ k (spT_spec h1)
omit hc in
theorem resC1_spec {r : ResultVar} {T : Tr AV} {H : Heap} {nx : Nat} {k : KV} (h : resC1 E r T H k = true) : ∃ x, resultA E ⟨T, H, nx⟩ r = some x ∧ k x = true := by
  unfold resC1 at h
  split at h
  · exact ⟨_, rfl, rd_spec h⟩
  · rename_i a t
    split at h
    · rename_i ti ht
      obtain ⟨x, g1, g2⟩ := loadG_spec (rd_spec h)
      exact ⟨x, by simp only [resultA, ht]; exact g1, g2⟩
    · cases h
omit hc in
theorem resC_spec {T : Tr AV} {H : Heap} {nx : Nat} : ∀ {l : List ResultVar} {k : List AV → Bool}, resC E l T H k = true → ∃ xs, resultsA E ⟨T, H, nx⟩ l = some xs ∧ k xs = true
  | [], k, h => ⟨[], rfl, h⟩
  | r :: l, k, h => by
    have h1 : resC1 E r T H (fun x => resC E l T H fun xs => k (x :: xs)) = true := h
    obtain ⟨x, g1, g2⟩ := resC1_spec (nx := nx) h1
    obtain ⟨xs, g3, g4⟩ := resC_spec (nx := nx) g2
    exact ⟨x :: xs, by simp only [resultsA, g1, g3], g4⟩
end

theorem callC_spec {E : Env} {prim : Nat → Option PrimA} {F : Nat} : ∀ n, CallSpec (callC E prim F n) (callN E prim (drawA E) F n)
  | 0 => by intro f args H nx k h; cases h
  | n + 1 => by
    intro f args H nx k h
    have h1 : (CF.rec (motive := fun _ => Bool)
      (fun p => out3 (p args H nx) k)
      (fun nt c rs => Bool.rec (motive := fun _ => Bool) false (argsC args 0 .lf fun T => c (callC E prim F n) F T H nx fun e T' H' nx' => ExA.rec (motive := fun _ => Bool)
        (resC E rs T' H' fun xs => oneC xs fun y => k y H' nx') (fun _ => false) (resC E rs T' H' fun xs => oneC xs fun y => k y H' nx') e) (Nat.ble args.length nt))
      false (cfn E prim f)) = true := h
    clear h
    unfold callN
    unfold cfn at h1
    cases hp : prim f with
    | some p =>
      simp only [hp] at h1 ⊢
      exact out3_spec h1
    | none =>
      simp only [hp] at h1 ⊢
      cases hf : E.fn.get f with
      | none => simp only [hf] at h1; cases h1
      | some fn =>
        simp only [hf] at h1
        cases hb : fn.body with
        | none => simp only [hb] at h1; cases h1
        | some c =>
          simp only [hb] at h1
          generalize hx : xb E fn.ntmps c = bx at h1
          obtain ⟨g⟩ := bx
          simp only at h1
          cases hl : Nat.ble args.length fn.ntmps with
          | false => rw [hl] at h1; cases h1
          | true =>
            rw [hl] at h1
            have h2 := argsC_spec _ _ _ _ h1
            obtain ⟨e, s, g1, g2⟩ := xb_spec (callC_spec n) (E := E) (nt := fn.ntmps) F c (argsT args 0 .lf) H nx (fun e T' H' nx' => ExA.rec (motive := fun _ => Bool)
        (resC E fn.results.toList T' H' fun xs => oneC xs fun y => k y H' nx') (fun _ => false) (resC E fn.results.toList T' H' fun xs => oneC xs fun y => k y H' nx') e) (by rw [hx]; exact h2)
            have fin : resC E fn.results.toList s.T s.H (fun xs => oneC xs fun y => k y s.H s.nx) = true → ∃ y H' nx', (match resultsA E s fn.results.toList with
                | some [x] => some (x, s.H, s.nx)
                | some xs => some (.tup xs, s.H, s.nx)
                | none => none) = some (y, H', nx') ∧ k y H' nx' = true := by
              intro h
              obtain ⟨xs, g3, g4⟩ := resC_spec (nx := s.nx) h
              unfold oneC at g4
              split at g4
              · rename_i x
                exact ⟨x, s.H, s.nx, by simp only [show (⟨s.T, s.H, s.nx⟩ : St) = s from rfl] at g3; simp only [g3], g4⟩
              · refine ⟨.tup xs, s.H, s.nx, ?_, g4⟩
                simp only [show (⟨s.T, s.H, s.nx⟩ : St) = s from rfl] at g3
                simp only [g3]
            cases e with
            | normal =>
              obtain ⟨y, H', nx', g3, g4⟩ := fin g2
              exact ⟨y, H', nx', by simp only [runF, hf, hb, hl, cond_true, g1]; exact g3, g4⟩
            | exit id => cases g2
            | ret =>
              obtain ⟨y, H', nx', g3, g4⟩ := fin g2
              exact ⟨y, H', nx', by simp only [runF, hf, hb, hl, cond_true, g1]; exact g3, g4⟩
end Go.Cl
