/- An operation's abstract answer is sound. -/
import Derived.Test.YtpgdhlnocgfjcaaGreatDoorClCp
import Derived.Laws.StructEq
set_option linter.unusedSimpArgs false
set_option linter.unusedVariables false
set_option linter.unusedSectionVars false
namespace Go.Cl

/-- Temporaries. -/
def TR (ρ : Nat → Loc) (H : Heap) (U : Gh) (w : World) (T : Tr AV) (tmps : Array Value) : Prop := ∀ t x, T.get t = some x → RV ρ H U w x (tmps.getD t undef)

/-- What an operation comes to. -/
def OutE (ρ : Nat → Loc) (H : Heap) (U : Gh) (w : World) (x : AV) (H' : Heap) (nx nx' : Nat) (r : Result Next) : Prop :=
  ∃ U', (∃ n w' ρ' v, r = .ok n w' ∧ (n = .value v ∨ n = .skip ∧ v = undef) ∧ RV ρ' H' U' w' x v ∧ Rel ρ' H' U' w' ∧ Ext ρ H U w ρ' H' U' w') ∧ nx ≤ nx' ∧ ∀ i, U' i → U i ∨ (nx ≤ i ∧ i < nx')

section
variable {P : Program} {E : Env} (hE : E.Ok P) {ρ : Nat → Loc} {H : Heap} {U : Gh} {w : World}

theorem TR.get {T : Tr AV} {tmps : Array Value} (h : TR ρ H U w T tmps) (t : Nat) : RV ρ H U w (getT T t) (tmps.getD t undef) := by
  unfold getT
  split
  · rename_i x hx; exact h t x hx
  · simp only [RV]

theorem TR.mono {ρ' : Nat → Loc} {H' : Heap} {U' : Gh} {w' : World} (X : Ext0 ρ H U w ρ' H' U' w') {T : Tr AV} {tmps : Array Value} (h : TR ρ H U w T tmps) : TR ρ' H' U' w' T tmps :=
  fun t x hx => RV.mono X _ _ (h t x hx)

theorem evalA_sound {T : Tr AV} {a : Act} (h : TR ρ H U w T a.tmps) (o : Operand) : RV ρ H U w (evalA T o) (a.eval o) := by
  cases o with
  | tmp t => exact h.get t
  | const v => exact of_rel v
  | global g => simp only [evalA, RV]
  | func f => simp only [evalA, RV, Act.eval]; exact ⟨#[], #[], rfl, by simp only [RVs], by simp only [RVs]⟩

theorem evalAs_sound {T : Tr AV} {a : Act} (h : TR ρ H U w T a.tmps) : ∀ (os : List Operand), RVs ρ H U w (os.map (evalA T)) (os.map a.eval)
  | [] => by simp only [List.map_nil, RVs]
  | o :: os => by
    simp only [List.map_cons, RVs]
    exact ⟨_, _, rfl, evalA_sound h o, evalAs_sound h os⟩

theorem evalPs_sound {T : Tr AV} {a : Act} (h : TR ρ H U w T a.tmps) : ∀ (ps : List (Nat × Operand)), PVs ρ H U w (ps.map fun p => (p.1, evalA T p.2)) (ps.map fun p => (p.1, a.eval p.2))
  | [] => by simp only [List.map_nil, PVs]
  | p :: ps => by
    simp only [List.map_cons, PVs]
    exact ⟨_, _, rfl, evalA_sound h p.2, evalPs_sound h ps⟩

theorem evalO_sound {T : Tr AV} {a : Act} (h : TR ρ H U w T a.tmps) : ∀ (o : Option Operand), ORV ρ H U w (o.map (evalA T)) (o.map a.eval)
  | none => trivial
  | some o => evalA_sound h o

/-! ### From what a value comes to -/
theorem OutN.next {x : AV} {H' : Heap} {nx nx' : Nat} {s : Sem Value} (h : OutN ρ H U w x H' nx nx' (s.run P w)) : OutE ρ H U w x H' nx nx' ((do pure (.value (← s)) : Sem Next).run P w) := by
  obtain ⟨U', ⟨v, w', ρ', h1, h2, h3, h4⟩, h5⟩ := h
  refine ⟨U', ⟨.value v, w', ρ', v, ?_, .inl rfl, h2, h3, h4⟩, h5⟩
  simp [Sem.run_bind, h1]

theorem OutE.same {x : AV} {nx : Nat} {r : Result Next} {v : Value} (R : Rel ρ H U w) (h : r = .ok (.value v) w) (hx : RV ρ H U w x v) : OutE ρ H U w x H nx nx r :=
  ⟨U, ⟨.value v, w, ρ, v, h, .inl rfl, hx, R, Ext.refl _ _ _ _⟩, Nat.le_refl _, fun i hi => .inl hi⟩

theorem OutE.sem {x : AV} {nx : Nat} {s : Sem Value} (R : Rel ρ H U w) (h : ∃ v, s.run P w = .ok v w ∧ RV ρ H U w x v) : OutE ρ H U w x H nx nx ((do pure (.value (← s)) : Sem Next).run P w) := by
  obtain ⟨v, h1, h2⟩ := h
  exact OutE.same R (v := v) (by simp [Sem.run_bind, h1]) h2

theorem OutE.unit {H' : Heap} {nx : Nat} {s : Sem Unit} (h : ∃ w', s.run P w = .ok () w' ∧ Rel ρ H' U w' ∧ Ext ρ H U w ρ H' U w') : OutE ρ H U w (.tup []) H' nx nx ((do s; pure .skip : Sem Next).run P w) := by
  obtain ⟨w', h1, h2, h3⟩ := h
  refine ⟨U, ⟨.skip, w', ρ, undef, by simp [Sem.run_bind, h1], .inr ⟨rfl, rfl⟩, ?_, h2, h3⟩, Nat.le_refl _, fun i hi => .inl hi⟩
  simp only [RV]
  exact ⟨#[], rfl, by simp only [RVs]⟩

theorem OutE.unitV {H' : Heap} {nx : Nat} {s : Sem Value} (h : ∃ w', s.run P w = .ok (.tuple #[]) w' ∧ Rel ρ H' U w' ∧ Ext ρ H U w ρ H' U w') : OutE ρ H U w (.tup []) H' nx nx ((do pure (.value (← s)) : Sem Next).run P w) := by
  obtain ⟨w', h1, h2, h3⟩ := h
  refine ⟨U, ⟨.value (.tuple #[]), w', ρ, _, by simp [Sem.run_bind, h1], .inl rfl, ?_, h2, h3⟩, Nat.le_refl _, fun i hi => .inl hi⟩
  simp only [RV]
  exact ⟨#[], rfl, by simp only [RVs]⟩

theorem keep_some {x : Option AV} {y : AV} {H' : Heap} {nx nx' : Nat} (h : Go.Cl.keep x H nx = some (y, H', nx')) : x = some y ∧ H' = H ∧ nx' = nx := by
  unfold Go.Cl.keep at h
  split at h <;> cases h
  exact ⟨rfl, rfl, rfl⟩

theorem newRow1_some {sz : Nat} {row : List AV} {y : AV} {H' : Heap} {nx nx' : Nat} (h : newRow1 sz row H nx = some (y, H', nx')) : 0 < sz ∧ row.length = sz ∧ row.all AV.leaf = true ∧ y = .ptr nx 0 0 ∧ H' = H.set nx (.rows sz [row]) ∧ nx' = nx + 1 := by
  unfold newRow1 at h
  cases hb : (Nat.ble 1 sz && Nat.beq row.length sz && row.all AV.leaf) with
  | false => rw [hb, cond_false] at h; cases h
  | true =>
    rw [hb, cond_true] at h
    cases h
    simp only [Bool.and_eq_true] at hb
    exact ⟨bleT hb.1.1, beqT hb.1.2, hb.2, rfl, rfl, rfl⟩

/-! ### Structs are compared -/
theorem leafEq_sound {t : Nat} {td : TD} (ht : leafTD P t = some td) {x y : AV} {b : Bool} (h : leafEq td x y = some b) {vx vy : Value} (hx : RV ρ H U w x vx) (hy : RV ρ H U w y vy) (d : Nat) : (Op.equalIn (d + 1) t vx vy).run P w = .ok b w := by
  unfold leafTD at ht
  split at ht <;> cases ht
  · rename_i hu
    cases x <;> cases y <;> simp only [leafEq, reduceCtorEq] at h
    simp only [RV] at hx hy
    subst hx; subst hy
    cases h
    simp [Op.equalIn, run_underlying hu]
  · rename_i k0 hu
    cases x <;> cases y <;> simp only [leafEq, reduceCtorEq] at h
    rename_i k a k' b'
    cases hk : sameKind k k' with
    | false => rw [hk, cond_false] at h; cases h
    | true =>
      rw [hk, cond_true] at h
      cases h
      have := sameKind_eq.1 hk
      subst this
      simp only [RV] at hx hy
      subst hx; subst hy
      simp [Op.equalIn, run_underlying hu]
  · rename_i hu
    cases x <;> cases y <;> simp only [leafEq, reduceCtorEq] at h
    simp only [RV] at hx hy
    subst hx; subst hy
    cases h
    simp [Op.equalIn, run_underlying hu, str_beq]

theorem leafTD_isAgg {t : Nat} {td : TD} (ht : leafTD P t = some td) (w : World) : (isAgg t).run P w = .ok false w := by
  unfold leafTD at ht
  split at ht <;> cases ht <;> rename_i hu <;> simp [isAgg, run_underlying hu]

theorem eqFields_sound (us vs : Array Value) (d : Nat) : ∀ (fs : List Field) (ds : List TD) (i : Nat) (xs ys : List AV) (b : Bool), fieldTDs P fs i = some ds → leavesEq ds xs ys = some b →
    RVs ρ H U w xs (us.toList.drop i) → RVs ρ H U w ys (vs.toList.drop i) → (Op.eqFields (d + 1) us vs fs).run P w = .ok b w
  | [], ds, i, xs, ys, b, h, he, hx, hy => by
    simp only [fieldTDs, Option.some.injEq] at h
    subst h
    cases xs <;> cases ys <;> simp only [leavesEq, reduceCtorEq, Option.some.injEq] at he
    subst he
    simp [Op.eqFields]
  | f :: fs, ds, i, xs, ys, b, h, he, hx, hy => by
    simp only [fieldTDs] at h
    cases hb : (f.name != "_" && f.offset == i) with
    | false => rw [hb, cond_false] at h; cases h
    | true =>
      rw [hb, cond_true] at h
      simp only [Bool.and_eq_true, bne_iff_ne, ne_eq, beq_iff_eq] at hb
      obtain ⟨hb1, hb2⟩ := hb
      cases hd : leafTD P f.type with
      | none => simp [hd] at h
      | some td =>
        cases hds : fieldTDs P fs (i + 1) with
        | none => simp [hd, hds] at h
        | some ds' =>
          simp only [hd, hds, Option.some.injEq] at h
          subst h
          cases xs with
          | nil => cases ys <;> simp [leavesEq] at he
          | cons x xs =>
            cases ys with
            | nil => simp [leavesEq] at he
            | cons y ys =>
              simp only [leavesEq] at he
              simp only [RVs] at hx hy
              obtain ⟨u, ru, e1, x1, x2⟩ := hx
              obtain ⟨v, rv, e2, y1, y2⟩ := hy
              have hu : us[i]? = some u := by
                have := congrArg (fun l : List Value => l[0]?) e1
                simpa using this
              have hv : vs[i]? = some v := by
                have := congrArg (fun l : List Value => l[0]?) e2
                simpa using this
              have hru : us.toList.drop (i + 1) = ru := by rw [← List.drop_drop, e1]; rfl
              have hrv : vs.toList.drop (i + 1) = rv := by rw [← List.drop_drop, e2]; rfl
              have p1 : (Go.part f.type us f.offset).run P w = .ok u w := by rw [hb2]; simp [Go.part, leafTD_isAgg hd, hu]
              have p2 : (Go.part f.type vs f.offset).run P w = .ok v w := by rw [hb2]; simp [Go.part, leafTD_isAgg hd, hv]
              have hne : f.name ≠ "_" := hb1
              cases hl : leafEq td x y with
              | none => simp [hl] at he
              | some c =>
                have hc := leafEq_sound hd hl x1 y1 d
                cases c with
                | false =>
                  simp only [hl, Option.some.injEq] at he
                  subst he
                  simp [Op.eqFields, hne, p1, p2, hc]
                | true =>
                  simp only [hl] at he
                  have ih := eqFields_sound us vs d fs ds' (i + 1) xs ys b hds he (by rw [hru]; exact x2) (by rw [hrv]; exact y2)
                  simp [Op.eqFields, hne, p1, p2, hc, ih]

theorem structEq_sound {t : Nat} {ds : List TD} (ht : eqOf P t = some ds) {xs ys : List AV} {b : Bool} (h : leavesEq ds xs ys = some b) {us vs : Array Value} (hx : RVs ρ H U w xs us.toList) (hy : RVs ρ H U w ys vs.toList) {op : BinOp} {z : AV} (ho : eqB op b = some z) (o1 o2 : Operand) :
    ∃ v, (do eqGuard op t o1 o2 (.agg us) (.agg vs); Go.binOp op t (.agg us) (.agg vs) : Sem Value).run P w = .ok v w ∧ RV ρ H U w z v := by
  unfold eqOf at ht
  split at ht
  case h_2 => cases ht
  rename_i fs hu
  cases hg : (!P.eqGuardType P.depth t && !P.stoodInHeld t) with
  | false => rw [hg, cond_false] at ht; cases ht
  | true =>
    rw [hg, cond_true] at ht
    simp only [Bool.and_eq_true, Bool.not_eq_true'] at hg
    have hf : P.fieldsOf t = fs := by simp [Program.fieldsOf, hu]
    have hrun := run_equalIn_struct (P := P) w 9999 t us vs (by rw [hf]; exact hu) hg.2
    rw [hf, eqFields_sound us vs 9998 fs.toList ds 0 xs ys b ht h (by simpa using hx) (by simpa using hy)] at hrun
    have hrun' : (Op.equalIn 10000 t (.agg us) (.agg vs)).run P w = .ok b w := hrun
    rcases eqB_some ho with ⟨rfl, rfl⟩ | ⟨rfl, rfl⟩
    · exact ⟨.bool b, by rw [Sem.run_bind, run_eqGuard_agg w _ t o1 o2 us vs hg.1]; simp [run_eql_struct, hrun'], by simp only [RV]⟩
    · exact ⟨.bool (!b), by rw [Sem.run_bind, run_eqGuard_agg w _ t o1 o2 us vs hg.1]; simp [run_neq_struct, hrun'], by simp only [RV]⟩

include hE
theorem builtin_sound {nx : Nat} (hn : ¬ U nx) {b : Builtin} {ts : Array TypeId} {args : List AV} {y : AV} {H' : Heap} {nx' : Nat} (h : builtinA E b ts args H nx = some (y, H', nx')) (R : Rel ρ H U w) {vs : Array Value} (hv : RVs ρ H U w args vs.toList) (ty : TypeId) (cs : Array Bool) :
    OutE ρ H U w y H' nx nx' ((Go.builtin b ts ty cs vs).run P w) := by
  obtain ⟨vl⟩ := vs
  unfold builtinA at h
  split at h
  · rename_i t t2 s x hts
    simp only [RVs] at hv
    obtain ⟨v1, r1, rfl, hs, v2, r2, rfl, hx, rfl⟩ := hv
    have hts' : ts = #[t, t2] := by apply Array.ext'; simpa using hts
    subst hts'
    exact OutN.next (append_sound hE hn h R hs hx)
  · rename_i t l d s hts
    simp only [RVs] at hv
    obtain ⟨v1, r1, rfl, hs, v2, r2, rfl, hx, rfl⟩ := hv
    have hts' : ts[0]? = some t := by rw [← Array.getElem?_toList, hts]; rfl
    exact OutN.next (copy_sound hE hts' h R hs hx)
  · rename_i t l x hts
    simp only [RVs] at hv
    obtain ⟨v1, r1, rfl, hs, rfl⟩ := hv
    have hts' : ts[0]? = some t := by rw [← Array.getElem?_toList, hts]; rfl
    exact OutN.next (clear_sound hE hts' h R hs)
  · rename_i t l m k hts
    simp only [RVs] at hv
    obtain ⟨v1, r1, rfl, hs, v2, r2, rfl, hx, rfl⟩ := hv
    have hts' : ts[0]? = some t := by rw [← Array.getElem?_toList, hts]; rfl
    split at h <;> cases h
    rename_i hd
    exact OutE.unitV (mapDel_sound hE hts' hd R hs hx)
  · rename_i t l x hts
    simp only [RVs] at hv
    obtain ⟨v1, r1, rfl, hs, rfl⟩ := hv
    have hts' : ts[0]? = some t := by rw [← Array.getElem?_toList, hts]; rfl
    obtain ⟨h1, rfl, rfl⟩ := keep_some h
    exact OutE.sem R (len_sound hE hts' h1 R hs)
  · rename_i x rest
    simp only [RVs] at hv
    obtain ⟨v1, r1, rfl, hs, hr⟩ := hv
    obtain ⟨h1, rfl, rfl⟩ := keep_some h
    exact OutE.sem R (s := Builtin.min_ ts ty ⟨v1 :: r1⟩) (min_sound (ts := ts) (ty := ty) h1 hs hr)
  · rename_i x rest
    simp only [RVs] at hv
    obtain ⟨v1, r1, rfl, hs, hr⟩ := hv
    obtain ⟨h1, rfl, rfl⟩ := keep_some h
    exact OutE.sem R (s := Builtin.max_ ts ty ⟨v1 :: r1⟩) (max_sound (ts := ts) (ty := ty) h1 hs hr)
  · cases h

theorem notIfc_und {t : Nat} {ti : TI} (ht : tiOf P t = some ti) (h : notIfc ti.td = true) : ∃ d, P.underlying t = some d ∧ ∀ m, d ≠ .interface m := by
  obtain ⟨d, h1, h2⟩ := und_of ht
  refine ⟨d, h1, fun m e => ?_⟩
  subst e
  rw [h2] at h
  simp [tdOf, notIfc] at h

/-- A new map. -/
theorem newMap_sound {nx : Nat} (hn : ¬ U nx) (R : Rel ρ H U w) : OutN ρ H U w (.map nx) (H.set nx (.map [])) nx (nx + 1) (.ok (.map (some w.heap.size)) { w with heap := w.heap.push (.map #[] 0) }) := by
  have X : Ext ρ H U w (atNew ρ nx ⟨w.heap.size, 0⟩) (H.set nx (.map [])) (Use nx U) { w with heap := w.heap.push (.map #[] 0) } :=
    Ext.new hn R (Nat.le_refl _) (fun b hb => heap_push_lt w _ hb) (by simp) rfl rfl rfl
  refine Out.n ⟨_, _, atNew ρ nx ⟨w.heap.size, 0⟩, rfl, ?_, ?_, X⟩
  · simp only [RV]
    refine ⟨.inl rfl, _, rfl, fun es hg => ?_⟩
    rw [atNew_new]
  · refine Rel.new hn R X (Nat.le_refl _) (fun b hb => heap_push_lt w _ hb) (by simp) ?_
    exact ⟨#[], 0, [], heap_push_new w _, List.Perm.refl _, rfl, List.Pairwise.nil, by simp, by simp⟩

theorem operA_sound {nx : Nat} (hn : ¬ U nx) {o : Oper} {T : Tr AV} {a : Act} {y : AV} {H' : Heap} {nx' : Nat} (h : operA E o.op T H nx = some (y, H', nx')) (hT : TR ρ H U w T a.tmps) (R : Rel ρ H U w) :
    OutE ρ H U w y H' nx nx' ((execOp a.eval o).run P w) ∧ (∀ c, o.op ≠ .defer c) := by
  have ev := fun x => evalA_sound (ρ := ρ) (H := H) (U := U) (w := w) hT x
  obtain ⟨dst, op, type, pos, after, guard⟩ := o
  simp only at h
  refine ⟨?_, fun c e => by simp only at e; subst e; simp [operA] at h⟩
  unfold operA at h
  split at h
  · cases h; exact OutE.same R rfl (ev _)
  · cases h; exact OutE.same R rfl (ev _)
  · rename_i c x z
    split at h
    · rename_i hc; cases h
      have := ev c; rw [hc] at this; simp only [RV] at this
      exact OutE.same R (v := a.eval x) (by simp [execOp, this, asBool]) (ev _)
    · rename_i hc; cases h
      have := ev c; rw [hc] at this; simp only [RV] at this
      exact OutE.same R (v := a.eval z) (by simp [execOp, this, asBool]) (ev _)
    · cases h
  · split at h
    case h_2 => cases h
    rename_i t ti hti
    obtain ⟨h1, h2, h3, rfl, rfl, rfl⟩ := newRow1_some h
    exact OutN.next (Out.n (alloc_sound hn (hE.ty _ _ hti) R h1 h2 _))
  · split at h
    case h_2 => cases h
    rename_i t x ti hti
    obtain ⟨h1, h2, h3, rfl, rfl, rfl⟩ := newRow1_some h
    exact OutN.next (Out.n (box_sound hn R h1 h2 h3 (ev _)))
  · rename_i t parts
    have hp := evalPs_sound (ρ := ρ) (H := H) (U := U) (w := w) hT parts.toList
    obtain ⟨h1, rfl, rfl⟩ := keep_some h
    exact OutE.sem R (build_sound hE h1 (by simpa using hp))
  · rename_i t n parts
    have hp := evalPs_sound (ρ := ρ) (H := H) (U := U) (w := w) hT parts.toList
    exact OutN.next (buildSlice_sound hE hn h R (by simpa using hp))
  · split at h
    case h_2 => cases h
    rename_i t x ti hti
    obtain ⟨h1, rfl, rfl⟩ := keep_some h
    exact OutE.sem R (load_sound (hE.ty _ _ hti) R h1 (ev _))
  · split at h
    case h_2 => cases h
    rename_i t x z ti hti
    split at h <;> cases h
    rename_i hs
    exact OutE.unit (store_sound (hE.ty _ _ hti) R hs (ev _) (ev _))
  · rename_i x
    have hx := ev x
    split at h <;> cases h
    · rename_i i r o he; rw [he] at hx
      have hx' := hx
      simp only [RV] at hx'
      obtain ⟨_, ad, hv, _⟩ := hx'
      exact OutE.same R (v := a.eval x) (by simp [execOp, hv]) hx
    · rename_i row o he; rw [he] at hx
      have hx' := hx
      simp only [RV] at hx'
      obtain ⟨_, b, o', hv, _⟩ := hx'
      exact OutE.same R (v := a.eval x) (by simp [execOp, hv]) hx
    · rename_i t v he; rw [he] at hx
      have hx' := hx
      simp only [RV] at hx'
      obtain ⟨u, hv, _⟩ := hx'
      exact OutE.same R (v := a.eval x) (by simp [execOp, hv]) hx
    · rename_i f fs c he; rw [he] at hx
      have hx' := hx
      simp only [RV] at hx'
      obtain ⟨us, cs, hv, _⟩ := hx'
      exact OutE.same R (v := a.eval x) (by simp [execOp, hv]) hx
  · rename_i op t x z yt
    have hx := ev x
    have hz := ev z
    split at h
    · rename_i xs ys e1 e2
      split at h
      case h_2 => cases h
      rename_i ds hds
      split at h
      case h_2 => cases h
      rename_i b hb
      obtain ⟨h1, rfl, rfl⟩ := keep_some h
      rw [e1] at hx
      rw [e2] at hz
      simp only [RV] at hx hz
      obtain ⟨us, hu, hus⟩ := hx
      obtain ⟨vs, hv, hvs⟩ := hz
      refine OutE.sem R (s := do eqGuard op t x z (a.eval x) (a.eval z); Go.binOp op t (a.eval x) (a.eval z)) ?_
      rw [hu, hv]
      exact structEq_sound (hE.eq _ _ hds) hb hus hvs h1 x z
    · split at h
      case h_2 => cases h
      rename_i ti hti
      obtain ⟨h1, rfl, rfl⟩ := keep_some h
      exact OutE.sem R (s := do eqGuard op t x z (a.eval x) (a.eval z); Go.binOp op t (a.eval x) (a.eval z)) (bin_sound hE hti h1 x z hx hz)
  · rename_i op t x
    have hx := ev x
    split at h <;> cases h
    · rename_i b he; rw [he] at hx; simp only [RV] at hx
      exact OutE.same R (v := .bool (!b)) (by simp [execOp, hx, Op.unary]) (by simp only [RV])
    · rename_i k n he; rw [he] at hx; simp only [RV] at hx
      exact OutE.same R (v := .int k (k.wrap (0 - n))) (by simp [execOp, hx, Op.unary, Op.intArith]) (by simp only [RV, wrapA_eq])
  · exact OutN.next (conv_sound hE hn h R (ev _))
  · split at h
    case h_2 => cases h
    rename_i t x _ ti hti
    cases hb : notIfc ti.td with
    | false => rw [hb, cond_false] at h; cases h
    | true =>
      rw [hb, cond_true] at h
      cases h
      obtain ⟨d, hd, hne⟩ := notIfc_und hE (hE.ty _ _ hti) hb
      refine OutE.same R (v := .iface t (a.eval x)) ?_ (by simp only [RV]; exact ⟨_, rfl, ev x⟩)
      cases d <;> simp_all [execOp, Instr.makeInterface, run_underlying hd]
  · rename_i f first caps
    cases h
    refine OutE.same R (v := .func (.func f) (first.map a.eval) (caps.map a.eval)) (by simp [execOp, Instr.makeFunc]) ?_
    simp only [RV]
    exact ⟨_, _, rfl, by simpa using evalAs_sound hT first.toList, by simpa using evalAs_sound hT caps.toList⟩
  · rename_i t r
    split at h
    · cases h
      have := newMap_sound (P := P) (E := E) hE hn R
      refine OutN.next (s := Instr.makeMap t none) ?_
      simpa [Instr.makeMap] using this
    · rename_i x
      split at h
      case h_2 => cases h
      rename_i ti k n hti he
      split at h <;> cases h
      rename_i kt et htd
      have hx := ev x
      rw [he] at hx
      simp only [RV] at hx
      have := newMap_sound (P := P) (E := E) hE hn R
      refine OutN.next (s := Instr.makeMap t (some (a.eval x))) ?_
      simpa [Instr.makeMap, run_underlying (und_map (hE.ty _ _ hti) htd), hx, asInt, asIntOf] using this
  · exact OutN.next (makeSlice_sound hE hn h R (ev _) (ev _))
  · rename_i t x lo hi mx
    obtain ⟨h1, rfl, rfl⟩ := keep_some h
    exact OutE.sem R (slice_sound hE h1 R (ev _) (evalO_sound hT _) (evalO_sound hT _) (evalO_sound hT _))
  · obtain ⟨h1, rfl, rfl⟩ := keep_some h
    exact OutE.sem R (fieldAddr_sound hE h1 (ev _))
  · obtain ⟨h1, rfl, rfl⟩ := keep_some h
    exact OutE.sem R (field_sound hE h1 (ev _))
  · obtain ⟨h1, rfl, rfl⟩ := keep_some h
    exact OutE.sem R (indexAddr_sound hE h1 (ev _) (ev _))
  · obtain ⟨h1, rfl, rfl⟩ := keep_some h
    exact OutE.sem R (index_sound hE h1 (ev _) (ev _))
  · obtain ⟨h1, rfl, rfl⟩ := keep_some h
    exact OutE.sem R (lookup_sound hE h1 R (ev _) (ev _))
  · split at h <;> cases h
    rename_i hs
    exact OutE.unit (mapPut_sound hE hs R (ev _) (ev _) (ev _))
  · split at h <;> cases h
    rename_i hs
    exact OutE.unit (mapPut_sound hE hs R (ev _) (ev _) (ev _))
  · rename_i x xt t ok
    split at h
    case h_2 => cases h
    rename_i ti t' v hti he
    cases hb : (notIfc ti.td && Nat.beq t' t) with
    | false => rw [hb, cond_false] at h; cases h
    | true =>
      rw [hb, cond_true] at h
      cases h
      simp only [Bool.and_eq_true] at hb
      have h2 := beqT hb.2
      subst h2
      obtain ⟨d, hd, hne⟩ := notIfc_und hE (hE.ty _ _ hti) hb.1
      have hx := ev x
      rw [he] at hx
      simp only [RV] at hx
      obtain ⟨u, hv, hu⟩ := hx
      cases ok with
      | true =>
        refine OutE.same R (v := .tuple #[u, .bool true]) ?_ (by simp only [cond_true, RV]; exact ⟨_, rfl, by simp only [RVs]; exact ⟨_, _, rfl, hu, _, _, rfl, by simp only [RV], rfl⟩⟩)
        cases d <;> simp_all [execOp, Instr.typeAssert, run_underlying hd]
      | false =>
        refine OutE.same R (v := u) ?_ (by simpa using hu)
        cases d <;> simp_all [execOp, Instr.typeAssert, run_underlying hd]
  · rename_i t i
    split at h
    case h_2 => cases h
    rename_i vs he
    obtain ⟨h1, rfl, rfl⟩ := keep_some h
    have hx := ev t
    rw [he] at hx
    simp only [RV] at hx
    obtain ⟨us, hv, hus⟩ := hx
    obtain ⟨v, g1, g2⟩ := (RVs_iff.1 hus).2 _ _ h1
    have g1' : us[i]? = some v := by simpa using g1
    exact OutE.same R (v := v) (by simp [execOp, Instr.extract, hv, g1']) g2
  · rename_i t x
    split at h
    case h_2 => cases h
    rename_i ti i hti he
    split at h <;> cases h
    rename_i kt et es htd hg
    have hx := ev x
    rw [he] at hx
    have hx0 := hx
    simp only [RV] at hx
    obtain ⟨hU, b, hv, hb⟩ := hx
    have hbb := hb es hg
    subst hbb
    obtain ⟨_, hlt, es', c, p, k1, k2⟩ := R.obj i _ hU hg
    have hrun : (Instr.range t (a.eval x)).run P w = .ok (.pointer (some ⟨w.heap.size, 0, none⟩)) { w with heap := w.heap.push (.mapIter (some (ρ i).b) c #[] c) } := by
      rw [hv]
      simp only [Instr.range, Sem.run_bind, run_underlying (und_map (hE.ty _ _ hti) htd), run_getMap k1, Result.andThen_ok, Sem.run_pure]
      rfl
    have X : Ext ρ H U w (atNew ρ nx ⟨w.heap.size, 0⟩) (H.set nx (.mit i)) (Use nx U) { w with heap := w.heap.push (.mapIter (some (ρ i).b) c #[] c) } :=
      Ext.new hn R (Nat.le_refl _) (fun b hb => heap_push_lt w _ hb) (by simp) rfl rfl rfl
    refine OutN.next (s := Instr.range t (a.eval x)) ?_
    rw [hrun]
    refine Out.n ⟨_, _, atNew ρ nx ⟨w.heap.size, 0⟩, rfl, ?_, ?_, X⟩
    · simp only [RV]
      refine ⟨.inl rfl, _, rfl, fun o hg => ?_⟩
      rw [atNew_new]
    · refine Rel.new hn R X (Nat.le_refl _) (fun b hb => heap_push_lt w _ hb) (by simp) ?_
      exact ⟨_, c, c, heap_push_new w _, RV.mono X.toExt0 _ _ (hv ▸ hx0)⟩
  · rename_i t x
    split at h
    case h_2 => cases h
    rename_i i he
    split at h
    case h_2 => cases h
    rename_i m hg
    split at h <;> cases h
    rename_i hgm
    have hx := ev x
    rw [he] at hx
    simp only [RV] at hx
    obtain ⟨hU, b, hv, hb⟩ := hx
    have hbb := hb _ hg
    subst hbb
    obtain ⟨_, hlt, mb, since, last, k1, k2⟩ := R.obj i _ hU hg
    simp only [RV] at k2
    obtain ⟨hUm, b2, e2, hb2⟩ := k2
    cases e2
    have hbb := hb2 _ hgm
    subst hbb
    obtain ⟨_, hltm, es', c, p, k3, k4, k5, _⟩ := R.obj m _ hUm hgm
    simp only [MRs] at k5
    subst k5
    have hes : es' = #[] := Array.toList_inj.1 (by simpa using k4.symm.eq_nil)
    subst hes
    have hrun : (Instr.next (a.eval x) false type).run P w = .ok (.tuple #[.bool false]) w := by
      rw [hv]
      simp [Instr.next, Sem.run_bind, run_getMit k1, run_getMap k3, Question.forced]
    refine OutN.next (s := Instr.next (a.eval x) false type) ?_
    rw [hrun]
    refine Out.n0 (Out.same R rfl ?_)
    simp only [RV, RVs]
    exact ⟨_, rfl, _, _, rfl, rfl, rfl⟩
  · rename_i c
    split at h
    case h_2 => cases h
    rename_i b hc
    have hargs : RVs ρ H U w (c.args.toList.map (evalA T)) (c.args.map a.eval).toList := by simpa using evalAs_sound hT c.args.toList
    have := fun cs => builtin_sound (P := P) hE hn h R hargs type cs
    simp only [execOp, resolve, hc, Sem.run_bind, Sem.run_pure, Result.andThen_ok, invoke]
    exact this _
  · cases h
end
end Go.Cl
