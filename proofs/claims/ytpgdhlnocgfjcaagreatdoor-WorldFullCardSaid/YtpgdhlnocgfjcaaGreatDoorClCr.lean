/- Regions, bodies, calls: the abstract machine is sound. -/
import Derived.Test.YtpgdhlnocgfjcaaGreatDoorClCq
import Derived.OrdersIn
set_option linter.unusedSimpArgs false
set_option linter.unusedVariables false
set_option linter.unusedSectionVars false
namespace Go.Cl

/-- A fence that lets everything in. -/
def Fz (r : Option Nat) : Fence := { fn := fun _ => True, depth := none, alive := false, round := r }

theorem callsIn_fz {r : Option Nat} {n m : Nat} {P : Program} {f : FuncId} {args : Array Value} {w : World} {R : Ending → World → Prop} (h : Calls P f args w R) : CallsIn (Fz r) n P f args w R := by
  have := (callsIn_wide (n := m) (P := P) (f := f) (args := args) (w := w) (R := R)).2 h
  exact ⟨trivial, fun cs _ => this.2 cs (room_wide _)⟩

theorem fz_room {r : Option Nat} (n : Nat) : (Fz r).room n := fun d h => by cases h

/-- Names grow. -/
def Grow (U : Gh) (nx : Nat) (U' : Gh) (nx' : Nat) : Prop := nx ≤ nx' ∧ ∀ i, U' i → U i ∨ (nx ≤ i ∧ i < nx')
theorem Grow.refl (U : Gh) (nx : Nat) : Grow U nx U nx := ⟨Nat.le_refl _, fun _ h => .inl h⟩
theorem Grow.trans {U U' U'' : Gh} {n n' n'' : Nat} (h : Grow U n U' n') (k : Grow U' n' U'' n'') : Grow U n U'' n'' :=
  ⟨Nat.le_trans h.1 k.1, fun i hi => by
    have h1 := h.1
    have k1 := k.1
    rcases k.2 i hi with h2 | h2
    · rcases h.2 i h2 with h3 | h3
      · exact .inl h3
      · exact .inr ⟨by omega, by omega⟩
    · exact .inr ⟨by omega, by omega⟩⟩
def Bound (U : Gh) (nx : Nat) : Prop := ∀ i, U i → i < nx
theorem Bound.grow {U U' : Gh} {n n' : Nat} (h : Bound U n) (k : Grow U n U' n') : Bound U' n' := fun i hi => by
  have := k.1
  rcases k.2 i hi with h2 | h2
  · have := h i h2; omega
  · omega
theorem Bound.not {U : Gh} {n : Nat} (h : Bound U n) : ¬ U n := fun hn => Nat.lt_irrefl _ (h n hn)

/-- What a call comes to. -/
def Ret (ρ : Nat → Loc) (H : Heap) (U : Gh) (w : World) (y : AV) (H' : Heap) (nx nx' : Nat) (v : Value) (w' : World) : Prop :=
  ∃ ρ' U', RV ρ' H' U' w' y v ∧ Rel ρ' H' U' w' ∧ Ext ρ H U w ρ' H' U' w' ∧ Grow U nx U' nx'

/-- The calls' abstract answers hold. -/
def CallOk (P : Program) (call : CallA) : Prop :=
  ∀ f args H nx y H' nx', call f args H nx = some (y, H', nx') → ∀ ρ U w (vs : Array Value), Rel ρ H U w → Bound U nx → RVs ρ H U w args vs.toList →
    (∃ v w', (callFunc f vs).run P w = .ok (.value v) w' ∧ Ret ρ H U w y H' nx nx' v w') ∨
    ((callFunc f vs).run P w = .ok (.enter f vs) w ∧ Calls P f vs w fun e w' => ∃ v, e = .returned v ∧ Ret ρ H U w y H' nx nx' v w')

/-- An activation, and its abstract one. -/
structure SR (ρ : Nat → Loc) (U : Gh) (nt : Nat) (df : List Deferred) (s : St) (a : Act) (w : World) : Prop where
  tr : TR ρ s.H U w s.T a.tmps
  rel : Rel ρ s.H U w
  bound : Bound U s.nx
  size : a.tmps.size = nt
  defers : a.defers = df

section
variable {P : Program} {E : Env} (hE : E.Ok P) {call : CallA} (hc : CallOk P call) {ρ : Nat → Loc} {U : Gh} {w : World} {nt : Nat} {ops : Array Oper} {r : Option Nat} {df : List Deferred}

theorem map_range_get (ops : Array Oper) : (List.range ops.size).map (ops[·]?) = ops.toList.map some := by
  apply List.ext_getElem?
  intro i
  simp only [List.getElem?_map, List.getElem?_range]
  by_cases hi : i < ops.size
  · simp [hi]
  · simp [hi]

theorem exists_least {p : Nat → Prop} (h : ∃ n, p n) : ∃ n, p n ∧ ∀ m, p m → n ≤ m := by
  obtain ⟨n, hn⟩ := h
  induction n using Nat.strongRecOn with
  | _ n ih =>
    by_cases hm : ∃ m, m < n ∧ p m
    · obtain ⟨m, h1, h2⟩ := hm
      exact ih m h1 h2
    · refine ⟨n, hn, fun m h2 => ?_⟩
      rcases Nat.lt_or_ge m n with h3 | h3
      · exact absurd ⟨m, h3, h2⟩ hm
      · exact h3
/-- The least number with a property. -/
noncomputable def least (p : Nat → Prop) : Nat := open Classical in if h : ∃ n, p n then Classical.choose (exists_least h) else 0
theorem least_spec {p : Nat → Prop} (h : ∃ n, p n) : p (least p) := by
  unfold least
  rw [dif_pos h]
  exact (Classical.choose_spec (exists_least h)).1
theorem least_le {p : Nat → Prop} {m : Nat} (h : p m) : least p ≤ m := by
  unfold least
  rw [dif_pos ⟨m, h⟩]
  exact (Classical.choose_spec (exists_least ⟨m, h⟩)).2 m h

theorem TR.put {H : Heap} {T T' : Tr AV} {a : Act} {dst : Option Nat} {x : AV} {v : Value} (hT : TR ρ H U w T a.tmps) (hx : RV ρ H U w x v) (hs : a.tmps.size = nt) (hp : putA nt T dst x = some T') :
    TR ρ H U w T' (a.put dst v).tmps ∧ (a.put dst v).tmps.size = nt ∧ (a.put dst v).defers = a.defers := by
  unfold putA at hp
  cases dst with
  | none =>
    simp only [Option.some.injEq] at hp
    subst hp
    exact ⟨hT, hs, rfl⟩
  | some d =>
    simp only at hp
    cases hb : Nat.ble (d + 1) nt with
    | false => rw [hb, cond_false] at hp; cases hp
    | true =>
      rw [hb, cond_true] at hp
      cases hp
      have hd := bleT hb
      refine ⟨fun t y hy => ?_, by simp [Act.put, hs], rfl⟩
      rw [Tr.get_set] at hy
      split at hy
      · rename_i e
        subst e
        cases hy
        have : (a.put (some t) v).tmps.getD t undef = v := by simp [Act.put, show t < a.tmps.size by omega]
        rw [this]
        exact hx
      · rename_i hne
        have : (a.put (some d) v).tmps.getD t undef = a.tmps.getD t undef := by
          simp only [Act.put, Array.getD_eq_getD_getElem?]
          rw [Array.getElem?_setIfInBounds_ne (fun e => hne e.symm)]
        rw [this]
        exact hT t y hy

theorem wantedA_sound {H : Heap} {T : Tr AV} {a : Act} (hT : TR ρ H U w T a.tmps) {o : Oper} {b : Bool} (h : wantedA ops T o = some b) : Region.wanted o (yielded ops a.tmps) = b := by
  unfold wantedA at h
  unfold Region.wanted
  split at h
  · rename_i hg
    cases h
    simp [hg]
  · rename_i j want hg
    simp only [hg]
    unfold yielded
    split at h
    · rename_i d hd
      simp only [hd, Option.bind_some]
      split at h <;> try cases h
      · rename_i b' hb'
        have hx := hT d _ hb'
        simp only [RV] at hx
        have : a.tmps[d]? = some (.bool b') := by
          rw [Array.getD_eq_getD_getElem?] at hx
          cases hq : a.tmps[d]? with
          | none => rw [hq] at hx; simp [undef] at hx
          | some u => rw [hq] at hx; simpa using hx
        simp [this]
      · rename_i hb'
        have hx := hT d _ hb'
        simp only [RV, RVs] at hx
        obtain ⟨us, hu, he⟩ := hx
        rw [Array.getD_eq_getD_getElem?] at hu
        cases hq : a.tmps[d]? with
        | none => simp
        | some u => rw [hq] at hu; simp only [Option.getD_some] at hu; subst hu; simp
    · rename_i hd
      cases h
      simp [hd]

theorem callee_sound {H : Heap} {T : Tr AV} {a : Act} (hT : TR ρ H U w T a.tmps) {o : Oper} {f : Nat} {args : List AV} (h : callee o.op T = some (f, args)) :
    ∃ vs : Array Value, RVs ρ H U w args vs.toList ∧ execOp a.eval o = callFunc f vs ∧ (∀ c, o.op ≠ .defer c) := by
  obtain ⟨dst, op, type, pos, after, guard⟩ := o
  simp only at h
  unfold callee at h
  split at h
  case h_2 => cases h
  rename_i c
  split at h
  case h_2 => cases h
  rename_i g hg
  split at h <;> cases h
  rename_i first caps he
  have hx := evalA_sound hT g
  rw [he] at hx
  simp only [RV] at hx
  obtain ⟨fs, cs, hv, h1, h2⟩ := hx
  refine ⟨fs ++ c.args.map a.eval ++ cs, ?_, ?_, by simp⟩
  · simp only [Array.toList_append, Array.toList_map]
    exact RVs_append (RVs_append h1 (evalAs_sound hT c.args.toList)) h2
  · simp [execOp, resolve, hg, hv, Deferred.ofValue, invoke]

include hE hc
/-- One operation. -/
theorem opA_sound {o : Oper} {s s' : St} (h : opA E call nt ops o s = some s') {a : Act} (S : SR ρ U nt df s a w) {K : Act → World → Prop} {Q : Exit → Act → World → Prop}
    (hK : ∀ a' w' ρ' U', SR ρ' U' nt df s' a' w' → Ext ρ s.H U w ρ' s'.H U' w' → Grow U s.nx U' s'.nx → K a' w') :
    if Region.wanted o (yielded ops a.tmps) then o.wpIn (Fz r) 0 P a w K Q else (∀ f, o.about P w a.eval = some f → (Fz r).fn f) ∧ K (a.put o.dst undef) w := by
  unfold opA at h
  split at h
  · rename_i hw
    rw [wantedA_sound S.tr hw, if_pos rfl]
    refine ⟨fun _ _ => trivial, ?_⟩
    split at h
    case h_2 => cases h
    rename_i x H' nx' hx
    split at h <;> cases h
    rename_i T' hp
    -- what is put, and on
    have fin : ∀ v w' ρ' U', RV ρ' H' U' w' x v → Rel ρ' H' U' w' → Ext ρ s.H U w ρ' H' U' w' → Grow U s.nx U' nx' → K (a.put o.dst v) w' := by
      intro v w' ρ' U' h1 h2 h3 h4
      obtain ⟨t1, t2, t3⟩ := TR.put (TR.mono h3.toExt0 S.tr) h1 S.size hp
      exact hK _ w' ρ' U' ⟨t1, h2, S.bound.grow h4, t2, t3.trans S.defers⟩ h3 h4
    split at hx
    · rename_i f args hcal
      obtain ⟨vs, g1, g2, g3⟩ := callee_sound S.tr hcal
      rw [Oper.semAt_eq _ _ _ g3, g2]
      rcases hc f args s.H s.nx x H' nx' hx ρ U w vs S.rel S.bound g1 with ⟨v, w', e1, ρ', U', k1, k2, k3, k4⟩ | ⟨e1, e2⟩
      · rw [e1]
        exact fin v w' ρ' U' k1 k2 k3 k4
      · rw [e1]
        refine ⟨fun h => (by cases h), callsIn_fz (m := 0) (e2.mono fun e w' he => ?_)⟩
        obtain ⟨v, rfl, ρ', U', k1, k2, k3, k4⟩ := he
        exact fin v w' ρ' U' k1 k2 k3 k4
    · obtain ⟨⟨U', ⟨n, w', ρ', v, e1, e2, k1, k2, k3⟩, k4⟩, g3⟩ := operA_sound hE S.bound.not hx S.tr S.rel
      rw [Oper.semAt_eq _ _ _ g3, e1]
      rcases e2 with rfl | ⟨rfl, rfl⟩
      · exact fin v w' ρ' U' k1 k2 k3 k4
      · exact fin _ w' ρ' U' k1 k2 k3 k4
  · rename_i hw
    split at h <;> cases h
    rename_i T' hp
    rw [wantedA_sound S.tr hw, if_neg (by simp)]
    refine ⟨fun _ _ => trivial, ?_⟩
    have hu : RV ρ s.H U w (.tup []) undef := by simp only [RV]; exact ⟨#[], rfl, by simp only [RVs]⟩
    obtain ⟨t1, t2, t3⟩ := TR.put S.tr hu S.size hp
    exact hK _ w ρ U ⟨t1, S.rel, S.bound, t2, t3.trans S.defers⟩ (Ext.refl _ _ _ _) (Grow.refl _ _)
  · cases h

theorem opsA_sound {Q : Exit → Act → World → Prop} : ∀ (l : List Oper) (is : List Nat) (s s' : St), (is.map (ops[·]?)) = l.map some → opsA E call nt ops l s = some s' → ∀ (ρ : Nat → Loc) (U : Gh) (a : Act) (w : World), SR ρ U nt df s a w →
    (∀ a' w' ρ' U', SR ρ' U' nt df s' a' w' → Ext ρ s.H U w ρ' s'.H U' w' → Grow U s.nx U' s'.nx → Q .normal a' w') → wpOpsIn (Fz r) 0 P ops Q is a w
  | [], is, s, s', hl, h, ρ, U, a, w, S, hK => by
    have : is = [] := by simpa using hl
    subst this
    simp only [opsA, Option.some.injEq] at h
    subst h
    exact hK a w ρ U S (Ext.refl _ _ _ _) (Grow.refl _ _)
  | o :: l, is, s, s', hl, h, ρ, U, a, w, S, hK => by
    cases is with
    | nil => simp at hl
    | cons i is =>
      simp only [List.map_cons, List.cons.injEq] at hl
      simp only [opsA] at h
      split at h
      case h_2 => cases h
      rename_i s1 h1
      simp only [wpOpsIn, hl.1]
      exact opA_sound hE hc h1 S fun a1 w1 ρ1 U1 S1 X1 G1 =>
        opsA_sound l is s1 s' hl.2 h ρ1 U1 a1 w1 S1 fun a' w' ρ' U' S' X' G' => hK a' w' ρ' U' S' (X1.trans X') (G1.trans G')

def exOf : ExA → Exit
  | .normal => .normal
  | .exit id => .exit id
  | .ret => .ret

/-- A region whose order is drawn. -/
def DrawOk (P : Program) (draw : Nat → Array Oper → St → Option St) : Prop :=
  ∀ nt ops s s', draw nt ops s = some s' → ∀ (r : Option Nat) (id : Nat) (df : List Deferred) (ρ : Nat → Loc) (U : Gh) (a : Act) (w : World) (Q : Exit → Act → World → Prop), SR ρ U nt df s a w →
    (∀ a' w' ρ' U', SR ρ' U' nt df s' a' w' → Ext ρ s.H U w ρ' s'.H U' w' → Grow U s.nx U' s'.nx → Q .normal a' w') → (Code.region id ops true).wpIn (Fz r) 0 P Q a w

theorem codeA_sound {draw : Nat → Array Oper → St → Option St} (hd : DrawOk P draw) : ∀ (n : Nat) (c : Code) (s : St) (e : ExA) (s' : St), codeA E call draw nt n c s = some (e, s') →
    ∀ (ρ : Nat → Loc) (U : Gh) (a : Act) (w : World) (Q : Exit → Act → World → Prop), SR ρ U nt df s a w →
    (∀ a' w' ρ' U', SR ρ' U' nt df s' a' w' → Ext ρ s.H U w ρ' s'.H U' w' → Grow U s.nx U' s'.nx → Q (exOf e) a' w') → c.wpIn (Fz r) 0 P Q a w := by
  intro n
  induction n using Nat.strongRecOn with
  | _ n ihs =>
  cases n with
  | zero => intro c s e s' h; simp [codeA] at h
  | succ n =>
    have ih := ihs n (Nat.lt_succ_self n)
    intro c s e s' h ρ U a w Q S hK
    have here : s' = s → Q (exOf e) a w := fun e1 => by subst e1; exact hK a w ρ U S (Ext.refl _ _ _ _) (Grow.refl _ _)
    cases c with
    | skip => simp only [codeA, Option.some.injEq, Prod.mk.injEq] at h; obtain ⟨rfl, rfl⟩ := h; exact wpIn_skip (here rfl)
    | ret => simp only [codeA, Option.some.injEq, Prod.mk.injEq] at h; obtain ⟨rfl, rfl⟩ := h; exact wpIn_ret (here rfl)
    | exit id => simp only [codeA, Option.some.injEq, Prod.mk.injEq] at h; obtain ⟨rfl, rfl⟩ := h; exact wpIn_exit (here rfl)
    | region id ops draw' =>
      cases draw' with
      | false =>
        simp only [codeA] at h
        split at h <;> cases h
        rename_i h1
        exact wpIn_region (opsA_sound hE hc ops.toList _ s s' (map_range_get ops) h1 ρ U a w S hK)
      | true =>
        simp only [codeA] at h
        split at h <;> cases h
        rename_i h1
        exact hd nt ops s s' h1 r id df ρ U a w Q S hK
    | seq x y =>
      simp only [codeA] at h
      cases hx : codeA E call draw nt n x s with
      | none => simp [hx] at h
      | some p =>
        obtain ⟨e1, s1⟩ := p
        cases e1 with
        | normal =>
          simp only [hx] at h
          exact wpIn_seq (ih x s _ s1 hx ρ U a w _ S fun a1 w1 ρ1 U1 S1 X1 G1 => ih y s1 e s' h ρ1 U1 a1 w1 Q S1 fun a' w' ρ' U' S' X' G' => hK a' w' ρ' U' S' (X1.trans X') (G1.trans G'))
        | exit id => simp only [hx, Option.some.injEq, Prod.mk.injEq] at h; obtain ⟨rfl, rfl⟩ := h; exact wpIn_seq (ih x s _ s1 hx ρ U a w _ S hK)
        | ret => simp only [hx, Option.some.injEq, Prod.mk.injEq] at h; obtain ⟨rfl, rfl⟩ := h; exact wpIn_seq (ih x s _ s1 hx ρ U a w _ S hK)
    | cond x c1 c2 =>
      simp only [codeA] at h
      have hx := evalA_sound S.tr x
      split at h
      · rename_i he; rw [he] at hx; simp only [RV] at hx
        exact wpIn_cond_true hx (ih c1 s e s' h ρ U a w Q S hK)
      · rename_i he; rw [he] at hx; simp only [RV] at hx
        exact wpIn_cond_false hx (ih c2 s e s' h ρ U a w Q S hK)
      · cases h
    | block id b =>
      simp only [codeA] at h
      cases hx : codeA E call draw nt n b s with
      | none => simp [hx] at h
      | some p =>
        obtain ⟨e1, s1⟩ := p
        refine wpIn_block (ih b s e1 s1 hx ρ U a w _ S fun a1 w1 ρ1 U1 S1 X1 G1 => ?_)
        cases e1 with
        | normal => simp only [hx, Option.some.injEq, Prod.mk.injEq] at h; obtain ⟨rfl, rfl⟩ := h; exact hK a1 w1 ρ1 U1 S1 X1 G1
        | ret => simp only [hx, Option.some.injEq, Prod.mk.injEq] at h; obtain ⟨rfl, rfl⟩ := h; exact hK a1 w1 ρ1 U1 S1 X1 G1
        | exit id' =>
          simp only [hx] at h
          cases hb : Nat.beq id' id with
          | true =>
            rw [hb, cond_true] at h
            simp only [Option.some.injEq, Prod.mk.injEq] at h
            obtain ⟨rfl, rfl⟩ := h
            have := beqT hb
            subst this
            simp only [exOf, Exit.inBlock, if_true]
            exact hK a1 w1 ρ1 U1 S1 X1 G1
          | false =>
            rw [hb, cond_false] at h
            simp only [Option.some.injEq, Prod.mk.injEq] at h
            obtain ⟨rfl, rfl⟩ := h
            have hne : id' ≠ id := fun e => by subst e; rw [beq_true] at hb; cases hb
            simp only [exOf, Exit.inBlock, if_neg hne]
            exact hK a1 w1 ρ1 U1 S1 X1 G1
    | loop b =>
      -- so much fuel is left
      let J : Nat → Act → World → Prop := fun m a1 w1 => m ≤ n + 1 ∧ ∃ s1 ρ1 U1, SR ρ1 U1 nt df s1 a1 w1 ∧ codeA E call draw nt m (.loop b) s1 = some (e, s') ∧ Ext ρ s.H U w ρ1 s1.H U1 w1 ∧ Grow U s.nx U1 s1.nx
      refine wpIn_loop (fun a1 w1 => ∃ m, J m a1 w1) (fun a1 w1 => least fun m => J m a1 w1) ⟨n + 1, Nat.le_refl _, s, ρ, U, S, h, Ext.refl _ _ _ _, Grow.refl _ _⟩ ?_
      intro a1 w1 hm
      have hJ := least_spec hm
      generalize (least fun m => J m a1 w1) = m at hJ
      obtain ⟨hle, s1, ρ1, U1, S1, h1, X1, G1⟩ := hJ
      cases m with
      | zero => simp [codeA] at h1
      | succ m =>
        simp only [codeA] at h1
        cases hx : codeA E call draw nt m b s1 with
        | none => simp [hx] at h1
        | some p =>
          obtain ⟨e2, s2⟩ := p
          refine ihs m (by omega) b s1 e2 s2 hx ρ1 U1 a1 w1 _ S1 fun a2 w2 ρ2 U2 S2 X2 G2 => ?_
          cases e2 with
          | normal =>
            simp only [hx] at h1
            have hj : J m a2 w2 := ⟨by omega, s2, ρ2, U2, S2, h1, X1.trans X2, G1.trans G2⟩
            refine ⟨⟨m, hj⟩, ?_⟩
            exact Nat.lt_succ_of_le (least_le hj)
          | exit id => simp only [hx, Option.some.injEq, Prod.mk.injEq] at h1; obtain ⟨rfl, rfl⟩ := h1; exact hK a2 w2 ρ2 U2 S2 (X1.trans X2) (G1.trans G2)
          | ret => simp only [hx, Option.some.injEq, Prod.mk.injEq] at h1; obtain ⟨rfl, rfl⟩ := h1; exact hK a2 w2 ρ2 U2 S2 (X1.trans X2) (G1.trans G2)
    | _ => simp [codeA] at h
end
end Go.Cl
