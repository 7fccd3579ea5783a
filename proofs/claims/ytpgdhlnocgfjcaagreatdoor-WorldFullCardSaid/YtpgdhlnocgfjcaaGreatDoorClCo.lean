/- Each operation is sound: maps. -/
import Derived.Test.YtpgdhlnocgfjcaaGreatDoorClCn
set_option linter.unusedSimpArgs false
set_option linter.unusedVariables false
set_option linter.unusedSectionVars false
namespace Go.Cl

section
variable {P : Program} {E : Env} (hE : E.Ok P) {ρ : Nat → Loc} {H : Heap} {U : Gh} {w : World}

theorem str_beq (a b : List UInt8) : ((⟨a.toArray⟩ : ByteArray) == (⟨b.toArray⟩ : ByteArray)) = (a == b) := by
  have h : ((⟨a.toArray⟩ : ByteArray) == (⟨b.toArray⟩ : ByteArray)) = (a.toArray == b.toArray) := rfl
  rw [h]
  by_cases h : a = b
  · subst h; simp
  · have h1 : (a == b) = false := by simpa using h
    rw [h1]
    simpa using h

/-- A key that one may ask for, of a plain kind. -/
theorem key_val {td : TD} {k : AV} (h : keyOk td k = true) {kv : Value} (hk : RV ρ H U w k kv) : (∃ kd a n, td = .int kd ∧ k = .int a n ∧ kv = .int a n) ∨ (∃ l, td = .str ∧ k = .str l ∧ kv = .string ⟨l.toArray⟩) := by
  unfold keyOk at h
  split at h
  · simp only [RV] at hk; exact .inl ⟨_, _, _, rfl, rfl, hk⟩
  · simp only [RV] at hk; exact .inr ⟨_, rfl, rfl, hk⟩
  · cases h

theorem sameNow_eq {d : TypeDesc} {td : TD} (hd : td = tdOf d) {k k2 : AV} (h : keyOk td k = true) (h2 : sameSort k k2 = true) {kv kv2 : Value} (hk : RV ρ H U w k kv) (hk2 : RV ρ H U w k2 kv2) :
    Instr.sameNow d kv kv2 = some (keyEq k k2) ∧ (keyEq k k2 = true → k2 = k ∧ kv2 = kv) := by
  rcases key_val h hk with ⟨kd, a, n, h3, rfl, rfl⟩ | ⟨l, h3, rfl, rfl⟩
  · have hd' := tdOf_int (hd.symm.trans h3)
    subst hd'
    cases k2 <;> simp only [sameSort, Bool.false_eq_true] at h2
    have := sameKind_eq.1 h2
    subst this
    simp only [RV] at hk2
    subst hk2
    refine ⟨by simp [Instr.sameNow, keyEq, h2], fun he => ?_⟩
    simp only [keyEq, h2, Bool.true_and, beq_iff_eq] at he
    subst he
    exact ⟨rfl, rfl⟩
  · have hd' := tdOf_str (hd.symm.trans h3)
    subst hd'
    cases k2 <;> simp only [sameSort, Bool.false_eq_true] at h2
    simp only [RV] at hk2
    subst hk2
    refine ⟨by simp only [Instr.sameNow, keyEq, str_beq], fun he => ?_⟩
    simp only [keyEq, beq_iff_eq] at he
    subst he
    exact ⟨rfl, rfl⟩

theorem checkKey_ok {t : Nat} {ti : TI} (ht : tiOf P t = some ti) {k : AV} (h : keyOk ti.td k = true) {kv : Value} (hk : RV ρ H U w k kv) (b : Bool) (w' : World) : (Instr.checkKey b 10000 t kv).run P w' = .ok () w' := by
  have key : ∀ d, (Instr.checkKey b (d + 1) t kv).run P w' = .ok () w' := by
    intro d
    rcases key_val h hk with ⟨kd, a, n, h3, rfl, rfl⟩ | ⟨l, h3, rfl, rfl⟩
    · simp [Instr.checkKey, run_underlying (und_int ht h3)]
    · simp [Instr.checkKey, run_underlying (und_str ht h3)]
  exact key 9999

theorem keeps {d : TypeDesc} {td : TD} {k : AV} (h : keyOk td k = true) {kv : Value} (hk : RV ρ H U w k kv) (w' : World) : (Instr.keyThatStays kv kv).run P w' = .ok kv w' := by
  rcases key_val h hk with ⟨kd, a, n, h3, rfl, rfl⟩ | ⟨l, h3, rfl, rfl⟩
  · simp [Instr.keyThatStays, Instr.sameBits]
  · simp [Instr.keyThatStays, Instr.sameBits, str_beq]

/-- What is looked for among the entries of a map, whose order is not ours. -/
theorem sortsOk {es : List (AV × AV)} {k : AV} (h : (es.all fun e => sameSort k e.1) = true) : ∀ e ∈ es, sameSort k e.1 = true := fun e he => List.all_eq_true.1 h e he

theorem MRs_append {xs ys : List (AV × AV)} {es fs : List MapEntry} (h : MRs ρ H U w xs es) (k : MRs ρ H U w ys fs) : MRs ρ H U w (xs ++ ys) (es ++ fs) := by
  induction xs generalizing es with
  | nil => simp only [MRs] at h; subst h; exact k
  | cons x xs ih =>
    obtain ⟨e, r, rfl, h1, h2, h4⟩ := h
    exact ⟨e, r ++ fs, rfl, h1, h2, ih h4⟩

/-- No entry is the key's. -/
theorem find_none {d : TypeDesc} {td : TD} (hd : td = tdOf d) {k : AV} (h : keyOk td k = true) {kv : Value} (hk : RV ρ H U w k kv) : ∀ {es : List (AV × AV)} {p : List MapEntry}, MRs ρ H U w es p →
    (∀ e ∈ es, sameSort k e.1 = true) → (∀ e ∈ es, keyEq k e.1 = false) → ∀ e' ∈ p, Instr.sameNow d kv e'.key = some false
  | [], p, hm, _, _ => by simp only [MRs] at hm; subst hm; simp
  | e :: es, p, hm, hs, hq => by
    obtain ⟨e', r, rfl, m1, m2, m4⟩ := hm
    intro x hx
    rcases List.mem_cons.1 hx with rfl | hx
    · rw [(sameNow_eq hd h (hs e (by simp)) hk m1).1, hq e (by simp)]
    · exact find_none hd h hk m4 (fun e he => hs e (by simp [he])) (fun e he => hq e (by simp [he])) x hx

theorem findE_none : ∀ {es : List (AV × AV)} {k : AV}, findE k es = none → (∀ e ∈ es, keyEq k e.1 = false) ∧ (∀ x, putE k x es = es ++ [(k, x)]) ∧ delE k es = es
  | [], k, _ => ⟨by simp, fun _ => rfl, rfl⟩
  | e :: es, k, h => by
    simp only [findE] at h
    cases hq : keyEq k e.1 with
    | true => rw [hq, cond_true] at h; cases h
    | false =>
      rw [hq, cond_false] at h
      obtain ⟨a, b, c⟩ := findE_none h
      refine ⟨fun x hx => ?_, fun x => by simp only [putE, hq, cond_false, b, List.cons_append], by simp only [delE, hq, cond_false, c]⟩
      rcases List.mem_cons.1 hx with rfl | hx
      · exact hq
      · exact a x hx

theorem findE_some : ∀ {es : List (AV × AV)} {k av : AV}, findE k es = some av → ∃ es1 k2 es2, es = es1 ++ (k2, av) :: es2 ∧ keyEq k k2 = true ∧ (∀ e ∈ es1, keyEq k e.1 = false) ∧ (∀ x, putE k x es = es1 ++ (k, x) :: es2) ∧ delE k es = es1 ++ es2
  | [], k, av, h => by simp [findE] at h
  | e :: es, k, av, h => by
    simp only [findE] at h
    cases hq : keyEq k e.1 with
    | true =>
      rw [hq, cond_true] at h
      cases h
      exact ⟨[], e.1, es, rfl, hq, by simp, fun x => by simp only [putE, hq, cond_true, List.nil_append], by simp only [delE, hq, cond_true, List.nil_append]⟩
    | false =>
      rw [hq, cond_false] at h
      obtain ⟨es1, k2, es2, rfl, a, b, c, d⟩ := findE_some h
      refine ⟨e :: es1, k2, es2, rfl, a, fun x hx => ?_, fun x => by simp only [putE, hq, cond_false, c, List.cons_append], by simp only [delE, hq, cond_false, d, List.cons_append]⟩
      rcases List.mem_cons.1 hx with rfl | hx
      · exact hq
      · exact b x hx

theorem MRs_split : ∀ {xs ys : List (AV × AV)} {p : List MapEntry}, MRs ρ H U w (xs ++ ys) p → ∃ p1 p2, p = p1 ++ p2 ∧ MRs ρ H U w xs p1 ∧ MRs ρ H U w ys p2
  | [], ys, p, h => ⟨[], p, rfl, rfl, h⟩
  | x :: xs, ys, p, h => by
    obtain ⟨e, r, rfl, h1, h2, h4⟩ := h
    obtain ⟨p1, p2, rfl, a, b⟩ := MRs_split h4
    exact ⟨e :: p1, p2, rfl, ⟨e, p1, rfl, h1, h2, a⟩, b⟩

theorem findNow_none {d : TypeDesc} {kv : Value} : ∀ {es : List MapEntry} {i : Nat}, (∀ e ∈ es, Instr.sameNow d kv e.key = some false) → Instr.findNow d kv es i = some none
  | [], _, _ => rfl
  | e :: es, i, h => by
    simp only [Instr.findNow, h e (by simp)]
    exact findNow_none fun x hx => h x (by simp [hx])
theorem findNow_at {d : TypeDesc} {kv : Value} {e0 : MapEntry} {q2 : List MapEntry} (h0 : Instr.sameNow d kv e0.key = some true) : ∀ {q1 : List MapEntry} {i : Nat}, (∀ e ∈ q1, Instr.sameNow d kv e.key = some false) → Instr.findNow d kv (q1 ++ e0 :: q2) i = some (some (i + q1.length, e0.val))
  | [], i, _ => by simp [Instr.findNow, h0]
  | e :: q1, i, h => by
    simp only [List.cons_append, Instr.findNow, h e (by simp)]
    rw [findNow_at h0 fun x hx => h x (by simp [hx])]
    simp only [List.length_cons]
    congr 3
    omega

/-- What is looked for among the entries of a map. -/
inductive Found (ρ : Nat → Loc) (H : Heap) (U : Gh) (w : World) (d : TypeDesc) (k : AV) (kv : Value) (es : List (AV × AV)) (es' : List MapEntry) : Prop where
  | no (h1 : findE k es = none) (h2 : Instr.findNow d kv es' 0 = some none)
  | yes (av : AV) (q1 q2 : List MapEntry) (e0 : MapEntry) (es1 es2 : List (AV × AV)) (p1 p2 : List MapEntry) (h1 : findE k es = some av) (h2 : es' = q1 ++ e0 :: q2) (h3 : Instr.findNow d kv es' 0 = some (some (q1.length, e0.val))) (h4 : RV ρ H U w av e0.val) (h5 : e0.key = kv)
      (h6 : ∀ x, putE k x es = es1 ++ (k, x) :: es2) (h7 : delE k es = es1 ++ es2) (h8 : MRs ρ H U w es1 p1) (h9 : MRs ρ H U w es2 p2) (h10 : (p1 ++ p2).Perm (q1 ++ q2))

theorem keyEq_comm (a b : AV) : keyEq a b = keyEq b a := by
  cases a <;> cases b <;> simp only [keyEq]
  · rename_i k n k' n'
    have : sameKind k k' = sameKind k' k := by cases k <;> cases k' <;> rfl
    rw [this, Bool.beq_comm]
  · rename_i l l'
    exact Bool.beq_comm

theorem find_rel {d : TypeDesc} {td : TD} (hd : td = tdOf d) {k : AV} (h : keyOk td k = true) {kv : Value} (hk : RV ρ H U w k kv) {es : List (AV × AV)} {p es' : List MapEntry} (hm : MRs ρ H U w es p) (hp : p.Perm es')
    (hpw : es.Pairwise (fun a b => keyEq a.1 b.1 = false)) (hall : (es.all fun e => sameSort k e.1) = true) : Found ρ H U w d k kv es es' := by
  have hs := sortsOk hall
  cases hf : findE k es with
  | none =>
    obtain ⟨a, b, c⟩ := findE_none hf
    have := find_none hd h hk hm hs a
    exact .no hf (findNow_none fun e he => this e (hp.mem_iff.2 he))
  | some av =>
    obtain ⟨es1, k2, es2, rfl, a, b, c, dd⟩ := findE_some hf
    obtain ⟨p1, p2', rfl, m1, m2⟩ := MRs_split hm
    obtain ⟨e0, p2, rfl, n1, n2, n3⟩ := m2
    obtain ⟨s1, s2⟩ := sameNow_eq hd h (hs (k2, av) (by simp)) hk n1
    obtain ⟨t1, t2⟩ := s2 a
    simp only at t1
    subst t1
    have hmem : e0 ∈ es' := hp.mem_iff.1 (by simp)
    obtain ⟨q1, q2, rfl⟩ := List.append_of_mem hmem
    have hpp : (p1 ++ p2).Perm (q1 ++ q2) := by
      have h1 : (e0 :: (p1 ++ p2)).Perm (e0 :: (q1 ++ q2)) := (List.perm_middle.symm.trans hp).trans List.perm_middle
      exact (List.perm_cons _).1 h1
    have hpw2 : ∀ e ∈ es2, keyEq k2 e.1 = false := by
      have := (List.pairwise_append.1 hpw).2.1
      exact fun e he => (List.pairwise_cons.1 this).1 e he
    have f1 := find_none hd h hk m1 (fun e he => hs e (by simp [he])) b
    have f2 := find_none hd h hk n3 (fun e he => hs e (by simp [he])) hpw2
    have hno : ∀ e ∈ q1, Instr.sameNow d kv e.key = some false := by
      intro e he
      have : e ∈ p1 ++ p2 := hpp.mem_iff.2 (by simp [he])
      rcases List.mem_append.1 this with h | h
      · exact f1 e h
      · exact f2 e h
    refine .yes av q1 q2 e0 es1 es2 p1 p2 hf rfl ?_ n2 t2 c dd m1 n3 hpp
    rw [findNow_at (by rw [s1, a]) hno]
    simp

theorem Found.pairwise {k x : AV} {es es1 es2 : List (AV × AV)} (hpw : es.Pairwise (fun a b => keyEq a.1 b.1 = false)) : (putE k x es).Pairwise (fun a b => keyEq a.1 b.1 = false) ∧ (delE k es).Pairwise (fun a b => keyEq a.1 b.1 = false) := by
  cases hf : findE k es with
  | none =>
    obtain ⟨a, b, c⟩ := findE_none hf
    rw [b, c]
    refine ⟨?_, hpw⟩
    rw [List.pairwise_append]
    refine ⟨hpw, by simp, fun e he e2 he2 => ?_⟩
    simp only [List.mem_singleton] at he2
    subst he2
    rw [keyEq_comm]
    exact a e he
  | some av =>
    obtain ⟨es1, k2, es2, rfl, a, b, c, dd⟩ := findE_some hf
    rw [c, dd]
    obtain ⟨h1, h2, h3⟩ := List.pairwise_append.1 hpw
    obtain ⟨h4, h5⟩ := List.pairwise_cons.1 h2
    have hk : ∀ e : AV × AV, keyEq k2 e.1 = false → keyEq k e.1 = false := by
      intro e he
      cases k <;> cases k2 <;> simp only [keyEq, Bool.false_eq_true] at a
      · simp only [Bool.and_eq_true, beq_iff_eq] at a
        obtain ⟨a1, a2⟩ := a
        have := sameKind_eq.1 a1
        subst this; subst a2
        exact he
      · simp only [beq_iff_eq] at a
        subst a
        exact he
    refine ⟨?_, ?_⟩
    · rw [List.pairwise_append]
      refine ⟨h1, List.pairwise_cons.2 ⟨fun e he => hk e (h4 e he), h5⟩, fun e he e2 he2 => ?_⟩
      rcases List.mem_cons.1 he2 with rfl | he2
      · rw [keyEq_comm]; exact b e he
      · exact h3 e he e2 (by simp [he2])
    · rw [List.pairwise_append]
      exact ⟨h1, h5, fun e he e2 he2 => h3 e he e2 (by simp [he2])⟩

theorem modify_mid {α : Type} (f : α → α) (e : α) (q2 : List α) : ∀ (q1 : List α), (q1 ++ e :: q2).modify q1.length f = q1 ++ f e :: q2
  | [] => by simp
  | a :: q1 => by simp [modify_mid f e q2 q1]

theorem run_findKey {t : Nat} {d : TypeDesc} (hu : P.underlying t = some d) {kv : Value} {es' : List MapEntry} {r : Option (Nat × Value)} (h : Instr.findNow d kv es' 0 = some r) (w' : World) : (Instr.findKey t kv es').run P w' = .ok r w' := by
  simp [Instr.findKey, run_underlying hu, h]

theorem run_setMap {w : World} {r : Nat} {es : Array MapEntry} {c : Nat} (h : w.heap[r]? = some (.map es c)) (o : Obj) : (setObj r o).run P w = .ok () { w with heap := w.heap.set! r o } := by
  simp [setObj, Sem.run, h]

include hE
theorem lookup_sound {t : Nat} {m k y : AV} {ok : Bool} (h : lookupA E t m k ok H = some y) (R : Rel ρ H U w) {vm vk : Value} (hm : RV ρ H U w m vm) (hk : RV ρ H U w k vk) :
    ∃ v, (Instr.lookup t vm vk ok).run P w = .ok v w ∧ RV ρ H U w y v := by
  unfold lookupA at h
  split at h
  case h_2 => cases h
  rename_i ti hti
  have ht := hE.ty _ _ hti
  split at h
  case h_2 => cases h
  rename_i kt et htd
  have hul := und_map ht htd
  split at h
  case h_2 => cases h
  rename_i ki ei hki hei
  have hkt := hE.ty _ _ hki
  have het := hE.ty _ _ hei
  split at h
  case h_2 => cases h
  rename_i es hes
  cases hb : keysOk ki.td es k with
  | false => rw [hb, cond_false] at h; cases h
  | true =>
    rw [hb, cond_true] at h
    simp only [keysOk, Bool.and_eq_true] at hb
    obtain ⟨dk, huk, hdk⟩ := und_of hkt
    -- the entries
    have ents : ∃ (es' : Array MapEntry) (p : List MapEntry), p.Perm es'.toList ∧ MRs ρ H U w es p ∧ es.Pairwise (fun a b => keyEq a.1 b.1 = false) ∧ (vm = .map none ∧ es' = #[] ∨ ∃ r c, vm = .map (some r) ∧ w.heap[r]? = some (.map es' c)) := by
      cases m <;> simp only [reduceCtorEq] at hes <;> simp only [RV] at hm
      · cases hes
        exact ⟨#[], [], List.Perm.refl _, rfl, List.Pairwise.nil, .inl ⟨hm, rfl⟩⟩
      · rename_i i
        split at hes <;> cases hes
        rename_i hg
        obtain ⟨hU, b, rfl, hb⟩ := hm
        have hb := hb _ hg
        subst hb
        obtain ⟨_, _, es', c, p, hh, hp, hmm, hpw, _⟩ := R.obj i _ hU hg
        exact ⟨es', p, hp, hmm, hpw, .inr ⟨_, _, rfl, hh⟩⟩
    obtain ⟨es', p, hp, hmm, hpw, hvm⟩ := ents
    have hck := fun b => checkKey_ok (P := P) hkt hb.1 hk b w
    have run : ∀ r, Instr.findNow dk vk es'.toList 0 = some r → ∀ (z : Value), ((zeroValue et).run P w = .ok z w ∨ r.isSome = true) → (Instr.lookup t vm vk ok).run P w = .ok (match r with | some (_, v) => (if ok then .tuple #[v, .bool true] else v) | none => (if ok then .tuple #[z, .bool false] else z)) w := by
      intro r hr z hz
      have hfk := run_findKey (P := P) huk hr w
      rcases hvm with ⟨rfl, rfl⟩ | ⟨b, c, rfl, hh⟩
      · cases r with
        | none =>
          have hz := hz.resolve_right (by simp)
          cases ok <;> simp [Instr.lookup, run_underlying hul, hck, hfk, hz] <;> simpa using hfk
        | some p => cases ok <;> simp [Instr.lookup, run_underlying hul, hck, hfk]
      · cases r with
        | none =>
          have hz := hz.resolve_right (by simp)
          cases ok <;> simp [Instr.lookup, run_underlying hul, run_getMap hh, hck, hfk, hz]
        | some p => cases ok <;> simp [Instr.lookup, run_underlying hul, run_getMap hh, hck, hfk]
    rcases find_rel hdk hb.1 hk hmm hp hpw hb.2 with ⟨f1, f4⟩ | ⟨av, q1, q2, e0, es1, es2, p1, p2, f1, f2, f3, f4, f5, f6, f7, f8, f9, f10⟩
    · rw [f1] at h
      simp only at h
      split at h
      case h_2 => cases h
      rename_i z hz
      obtain ⟨ii, g1, g2⟩ := tiOf_zv het
      rw [hz] at g2
      cases hzz : ii.zero with
      | none => rw [hzz] at g2; cases g2
      | some zv =>
        rw [hzz] at g2
        simp only [Option.map_some, Option.some.injEq] at g2
        subst g2
        have hrun := run none f4 zv (.inl (by simp [zeroValue, typeInfo, g1, hzz]))
        have hzr := of_rel (ρ := ρ) (H := H) (U := U) (w := w) zv
        cases ok with
        | true =>
          simp only [cond_true, Option.some.injEq] at h
          subst h
          refine ⟨_, hrun, ?_⟩
          simp only [RV]
          exact ⟨#[zv, .bool false], by simp, by simp only [RVs]; exact ⟨_, _, rfl, hzr, _, _, rfl, by simp only [RV], rfl⟩⟩
        | false =>
          simp only [cond_false, Option.some.injEq] at h
          subst h
          exact ⟨_, hrun, by simpa using hzr⟩
    · rw [f1] at h
      simp only at h
      have hrun := run _ f3 (.bool true) (.inr (by simp))
      cases ok with
      | true =>
        simp only [cond_true, Option.some.injEq] at h
        subst h
        refine ⟨_, hrun, ?_⟩
        simp only [RV]
        exact ⟨#[e0.val, .bool true], by simp, by simp only [RVs]; exact ⟨_, _, rfl, f4, _, _, rfl, by simp only [RV], rfl⟩⟩
      | false =>
        simp only [cond_false, Option.some.injEq] at h
        subst h
        exact ⟨_, hrun, by simpa using f4⟩

/-- A map's entries turn. -/
theorem map_turn (R : Rel ρ H U w) {i : Nat} {es es2 : List (AV × AV)} {c c2 : Nat} (hU : U i) (hg : H.get i = some (.map es)) {es' es2' : Array MapEntry} (hh : w.heap[(ρ i).b]? = some (.map es' c)) {p : List MapEntry} (hp : p.Perm es2'.toList) (hm : MRs ρ H U w es2 p)
    (hpw : es2.Pairwise (fun a b => keyEq a.1 b.1 = false)) (hb1 : (es2'.toList.map (·.born)).Nodup) (hb2 : ∀ e ∈ es2'.toList, e.born < c2) :
    Rel ρ (H.set i (.map es2)) U { w with heap := w.heap.set! (ρ i).b (.map es2' c2) } ∧ Ext ρ H U w ρ (H.set i (.map es2)) U { w with heap := w.heap.set! (ρ i).b (.map es2' c2) } := by
  have hb := (R.obj i _ hU hg).2.1
  have hne : ∀ b, b ≠ (ρ i).b → (w.heap.set! (ρ i).b (.map es2' c2))[b]? = w.heap[b]? := fun b hb => by
    simp only [Array.set!_eq_setIfInBounds, Array.getElem?_setIfInBounds]
    rw [if_neg (fun e => hb e.symm)]
  have X : Ext ρ H U w ρ (H.set i (.map es2)) U { w with heap := w.heap.set! (ρ i).b (.map es2' c2) } :=
    Ext.upd hU hg ⟨fun sz rs e => (by cases e), fun es e => ⟨_, rfl⟩⟩ hne (by simp) rfl rfl rfl R
  refine ⟨Rel.upd R hU hg X hne ⟨es2', c2, p, ?_, hp, MRs.mono X.toExt0 _ _ hm, hpw, hb1, hb2⟩, X⟩
  simp [hb]

theorem mapPut_sound {t : Nat} {m k x : AV} {H' : Heap} (h : mapPutA E t m k x H = some H') (R : Rel ρ H U w) {vm vk vx : Value} (hm : RV ρ H U w m vm) (hk : RV ρ H U w k vk) (hx : RV ρ H U w x vx) :
    ∃ w', (Instr.mapUpdate t vm vk vx).run P w = .ok () w' ∧ Rel ρ H' U w' ∧ Ext ρ H U w ρ H' U w' := by
  unfold mapPutA at h
  split at h
  case h_2 => cases h
  rename_i ti i hti
  have ht := hE.ty _ _ hti
  split at h
  case h_2 => cases h
  rename_i kt et es htd hg
  have hul := und_map ht htd
  split at h
  case h_2 => cases h
  rename_i ki hki
  have hkt := hE.ty _ _ hki
  cases hb : keysOk ki.td es k with
  | false => rw [hb, cond_false] at h; cases h
  | true =>
    rw [hb, cond_true] at h
    cases h
    simp only [keysOk, Bool.and_eq_true] at hb
    obtain ⟨dk, huk, hdk⟩ := und_of hkt
    simp only [RV] at hm
    obtain ⟨hU, b, rfl, hb'⟩ := hm
    have hb' := hb' _ hg
    subst hb'
    obtain ⟨_, _, es', c, p, hh, hp, hmm, hpw, hb1, hb2⟩ := R.obj i _ hU hg
    have hck := fun b => checkKey_ok (P := P) hkt hb.1 hk b w
    rcases find_rel hdk hb.1 hk hmm hp hpw hb.2 with ⟨f1, f4⟩ | ⟨av, q1, q2, e0, es1, es2, p1, p2, f1, f2, f3, f4, f5, f6, f7, f8, f9, f10⟩
    · have hfk := run_findKey (P := P) huk f4 w
      obtain ⟨_, g2, _⟩ := findE_none f1
      obtain ⟨k1, k2⟩ := map_turn (E := E) (P := P) hE R hU hg (es2 := putE k x es) (c2 := c + 1) (es2' := es'.push { key := vk, val := vx, born := c }) hh (p := p ++ [{ key := vk, val := vx, born := c }])
        (by simp only [Array.toList_push]; exact hp.append_right _)
        (by rw [g2]; exact MRs_append hmm ⟨_, _, rfl, hk, hx, rfl⟩) (Found.pairwise (es1 := []) (es2 := []) hpw).1
        (by
          simp only [Array.toList_push, List.map_append, List.map_cons, List.map_nil]
          rw [List.nodup_append]
          refine ⟨hb1, by simp, fun a ha b hb => ?_⟩
          simp only [List.mem_singleton] at hb
          subst hb
          obtain ⟨e, he, rfl⟩ := List.mem_map.1 ha
          have := hb2 e he
          omega)
        (by
          intro e he
          simp only [Array.toList_push, List.mem_append, List.mem_singleton] at he
          rcases he with he | rfl
          · have := hb2 e he; omega
          · simp)
      exact ⟨_, by simp [Instr.mapUpdate, run_underlying hul, run_getMap hh, hck, hfk, run_setMap hh], k1, k2⟩
    · have hfk := run_findKey (P := P) huk f3 w
      have hlist : (es'.modify q1.length fun e => { e with key := vk, val := vx }).toList = q1 ++ { e0 with key := vk, val := vx } :: q2 := by
        rw [Array.toList_modify, f2, modify_mid]
      have hborn : ((es'.modify q1.length fun e => { e with key := vk, val := vx }).toList.map (·.born)) = es'.toList.map (·.born) := by rw [hlist, f2]; simp
      obtain ⟨k1, k2⟩ := map_turn (E := E) (P := P) hE R hU hg (es2 := putE k x es) (c2 := c) (es2' := es'.modify q1.length fun e => { e with key := vk, val := vx }) hh (p := p1 ++ { e0 with key := vk, val := vx } :: p2)
        (by rw [hlist]; exact (List.perm_middle.trans (List.Perm.cons _ f10)).trans List.perm_middle.symm)
        (by rw [f6]; exact MRs_append f8 ⟨_, _, rfl, hk, hx, f9⟩) (Found.pairwise (es1 := []) (es2 := []) hpw).1 (by rw [hborn]; exact hb1)
        (by
          intro e he
          have h1 : e.born ∈ ((es'.modify q1.length fun e => { e with key := vk, val := vx }).toList.map (·.born)) := List.mem_map.2 ⟨e, he, rfl⟩
          rw [hborn] at h1
          obtain ⟨e2, he2, heq⟩ := List.mem_map.1 h1
          rw [← heq]
          exact hb2 e2 he2)
      have hkey : ((es'[q1.length]?).map (·.key)).getD vk = vk := by
        have : es'.toList[q1.length]? = some e0 := by rw [f2]; simp
        simp only [Array.getElem?_toList] at this
        rw [this]
        simpa using f5
      have hst := keeps (P := P) (d := dk) hb.1 hk w
      refine ⟨_, ?_, k1, k2⟩
      simp [Instr.mapUpdate, run_underlying hul, run_getMap hh, hck, hfk, hkey, hst, run_setMap hh]

theorem mapDel_sound {t ty : Nat} {ts : Array Nat} (hts : ts[0]? = some t) {m k : AV} {H' : Heap} (h : mapDelA E t m k H = some H') (R : Rel ρ H U w) {vm vk : Value} (hm : RV ρ H U w m vm) (hk : RV ρ H U w k vk) :
    ∃ w', (Builtin.delete_ ts ty #[vm, vk]).run P w = .ok (.tuple #[]) w' ∧ Rel ρ H' U w' ∧ Ext ρ H U w ρ H' U w' := by
  unfold mapDelA at h
  split at h
  case h_2 => cases h
  rename_i ti i hti
  have ht := hE.ty _ _ hti
  split at h
  case h_2 => cases h
  rename_i kt et es htd hg
  have hul := und_map ht htd
  split at h
  case h_2 => cases h
  rename_i ki hki
  have hkt := hE.ty _ _ hki
  cases hb : keysOk ki.td es k with
  | false => rw [hb, cond_false] at h; cases h
  | true =>
    rw [hb, cond_true] at h
    cases h
    simp only [keysOk, Bool.and_eq_true] at hb
    obtain ⟨dk, huk, hdk⟩ := und_of hkt
    simp only [RV] at hm
    obtain ⟨hU, b, rfl, hb'⟩ := hm
    have hb' := hb' _ hg
    subst hb'
    obtain ⟨_, _, es', c, p, hh, hp, hmm, hpw, hb1, hb2⟩ := R.obj i _ hU hg
    have hck := fun b => checkKey_ok (P := P) hkt hb.1 hk b w
    rcases find_rel hdk hb.1 hk hmm hp hpw hb.2 with ⟨f1, f4⟩ | ⟨av, q1, q2, e0, es1, es2, p1, p2, f1, f2, f3, f4, f5, f6, f7, f8, f9, f10⟩
    · have hfk := run_findKey (P := P) huk f4 w
      obtain ⟨_, _, g3⟩ := findE_none f1
      obtain ⟨k1, k2⟩ := map_turn (E := E) (P := P) hE R hU hg (es2 := delE k es) (c2 := c) (es2' := es') hh hp (by rw [g3]; exact hmm) (by rw [g3]; exact hpw) hb1 hb2
      exact ⟨_, by simp [Builtin.delete_, hts, run_underlying hul, run_getMap hh, hck, hfk, run_setMap hh], k1, k2⟩
    · have hfk := run_findKey (P := P) huk f3 w
      have hlt : q1.length < es'.size := by
        have : es'.toList.length = _ := congrArg List.length f2
        simp at this
        omega
      have hlist : (es'.eraseIdxIfInBounds q1.length).toList = q1 ++ q2 := by
        rw [Array.eraseIdxIfInBounds, dif_pos hlt, Array.toList_eraseIdx, f2]
        simp [List.eraseIdx_append_of_length_le]
      have hsub : (q1 ++ q2).Sublist es'.toList := by rw [f2]; exact List.Sublist.append_left (List.sublist_cons_self _ _) _
      obtain ⟨k1, k2⟩ := map_turn (E := E) (P := P) hE R hU hg (es2 := delE k es) (c2 := c) (es2' := es'.eraseIdxIfInBounds q1.length) hh (p := p1 ++ p2)
        (by rw [hlist]; exact f10) (by rw [f7]; exact MRs_append f8 f9) (Found.pairwise (x := k) (es1 := []) (es2 := []) hpw).2
        (by rw [hlist]; exact List.Sublist.nodup (hsub.map _) hb1) (by rw [hlist]; exact fun e he => hb2 e (hsub.subset he))
      refine ⟨_, ?_, k1, k2⟩
      simp [Builtin.delete_, hts, run_underlying hul, run_getMap hh, hck, hfk, run_setMap hh]
end
end Go.Cl
