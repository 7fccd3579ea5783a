/- Bodies that range over slices.Backward. -/
import Derived.Test.YtpgdhlnocgfjcaaGreatDoorClEg
import Derived.Test.YtpgdhlnocgfjcaaGreatDoorClDb
import Derived.RangeFuncRecord
import Derived.RangeFuncSeq
set_option linter.unusedSimpArgs false
set_option linter.unusedVariables false
set_option linter.unusedSectionVars false
namespace Go.Cl

/-! ### Private blocks may be turned by whom they belong to -/
section
variable {ρ : Nat → Loc} {H : Heap} {U : Gh} {w : World} {l : Nat} {o : Obj}
theorem put_ext0 (R : Rel ρ H U w) (hl : U.priv l) : Ext0 ρ H U w ρ H U (w.putObj l o) := by
  refine ⟨fun _ h => h, fun i hi o' ho => ⟨o', ho, rfl, fun sz rs' e => ⟨⟨rs', e⟩, ?_⟩, fun es e => ⟨es, e⟩⟩, fun b hb hm => ⟨World.putObj_heap_other fun e => hm (.inr (e ▸ hl)), hm⟩, by simp, rfl, rfl, rfl, rfl, rfl⟩
  unfold cellsIn
  rw [World.putObj_heap_other ((R.priv l hl).2 i o' hi ho)]
theorem put_rel (R : Rel ρ H U w) (hl : U.priv l) : Rel ρ H U (w.putObj l o) :=
  ⟨fun i oi hi ho => ⟨hi, by rw [World.putObj_size]; exact (R.obj i oi hi ho).2.1, ORel.mono (put_ext0 R hl) (World.putObj_heap_other ((R.priv l hl).2 i oi hi ho)) oi (R.obj i oi hi ho).2.2⟩, R.inj, fun b hb => ⟨by rw [World.putObj_size]; exact (R.priv b hb).1, (R.priv b hb).2⟩⟩
/-- Seen from a world in which the block was not there. -/
theorem Ext.put {ρ0 : Nat → Loc} {H0 : Heap} {U0 : Gh} {w0 : World} (R0 : Rel ρ0 H0 U0 w0) (X : Ext ρ0 H0 U0 w0 ρ H U w) (R : Rel ρ H U w) (hl : U.priv l) (hn : w0.heap.size ≤ l) : Ext ρ0 H0 U0 w0 ρ H U (w.putObj l o) :=
  ⟨X.toExt0.trans (put_ext0 R hl), fun b hb => by
    have hlt := (R0.priv b hb).1
    rw [World.putObj_heap_other (by omega)]
    exact X.keep b hb⟩

/-- Two blocks more, nobody else's. -/
def Gh.two (U : Gh) (D l : Nat) : Gh := ⟨U.use, fun b => U.priv b ∨ b = D ∨ b = l, U.J, U.N⟩
theorem two_new {w1 : World} (R : Rel ρ H U w) {D l : Nat} (hD : w.heap.size ≤ D) (hl : w.heap.size ≤ l) (hD1 : D < w1.heap.size) (hl1 : l < w1.heap.size) (hh : ∀ b, b < w.heap.size → w1.heap[b]? = w.heap[b]?) (hs : w.heap.size ≤ w1.heap.size) (h1 : w1.os = w.os) (h2 : w1.tape = w.tape) (h3 : w1.output = w.output) :
    Ext ρ H U w ρ H (U.two D l) w1 ∧ Rel ρ H (U.two D l) w1 := by
  have X : Ext ρ H U w ρ H (U.two D l) w1 := by
    refine ⟨⟨fun _ h => h, fun i hi o' ho => ⟨o', ho, rfl, fun sz rs' e => ⟨⟨rs', e⟩, ?_⟩, fun es e => ⟨es, e⟩⟩, fun b hb hm => ⟨hh b hb, ?_⟩, hs, h1, h2, h3, rfl, rfl⟩, fun b hb => ⟨hh b (R.priv b hb).1, .inl hb⟩⟩
    · unfold cellsIn
      rw [hh _ (R.obj i o' hi ho).2.1]
    · rintro (⟨i, o, hi, ho, e⟩ | h | h | h)
      · exact hm (.inl ⟨i, o, hi, ho, e⟩)
      · exact hm (.inr h)
      · omega
      · omega
  refine ⟨X, ⟨fun i o hi ho => ⟨hi, Nat.lt_of_lt_of_le (R.obj i o hi ho).2.1 hs, ORel.mono X.toExt0 (hh _ (R.obj i o hi ho).2.1) o (R.obj i o hi ho).2.2⟩, R.inj, ?_⟩⟩
  rintro b (hb | rfl | rfl)
  · exact ⟨Nat.lt_of_lt_of_le (R.priv b hb).1 hs, (R.priv b hb).2⟩
  · exact ⟨hD1, fun i o hi ho => by have := (R.obj i o hi ho).2.1; omega⟩
  · exact ⟨hl1, fun i o hi ho => by have := (R.obj i o hi ho).2.1; omega⟩
end

/-! ### The abstract run -/
section
variable (E : Env) (call : CallA) (draw : Nat → Array Oper → St → Option St) (nt fuel i j r len : Nat) (T : Tr AV) (p0 p1 : Nat) (asg body : Code)
/-- So many rounds are left. -/
def itA : Nat → Heap → Nat → Option (Heap × Nat)
  | 0, H, nx => some (H, nx)
  | m + 1, H, nx => match H.get i with
    | some (.box (.sl j' r' n')) => bif Nat.beq j' j && Nat.beq r' r && Nat.beq n' len then (match H.get j with
      | some (.rows 1 rs) => (match rs[r + m]? with
        | some [.int .i64 x] => (match codeA E call draw nt fuel asg ⟨(T.set p0 (.int .i64 (.ofNat m))).set p1 (.int .i64 x), H, nx⟩ with
          | some (.normal, s1) => (match codeA E call draw nt fuel body s1 with
            | some (.normal, s2) => itA m s2.H s2.nx
            | _ => none)
          | _ => none)
        | _ => none)
      | _ => none) else none
    | _ => none
end
/-- A body whose outer part may range over slices.Backward. -/
def bodyA (E : Env) (bk : Nat → Bool) (call : CallA) (draw : Nat → Array Oper → St → Option St) (nt : Nat) : Nat → Code → St → Option (ExA × St)
  | 0, _, _ => none
  | n + 1, c, s => match c with
    | .seq a b => (match bodyA E bk call draw nt n a s with
      | some (.normal, s') => bodyA E bk call draw nt n b s'
      | r => r)
    | .cond x a b => (match evalA s.T x with
      | .bool true => bodyA E bk call draw nt n a s
      | .bool false => bodyA E bk call draw nt n b s
      | _ => none)
    | .block id b => (match bodyA E bk call draw nt n b s with
      | some (.exit id', s') => bif Nat.beq id' id then some (.normal, s') else some (.exit id', s')
      | r => r)
    | .rangeFunc g ps asg body => (match evalA s.T g, ps.toList with
      | .fn f [] [.it i], [p0, p1] => bif bk f && Nat.ble (p0 + 1) nt && Nat.ble (p1 + 1) nt then (match s.H.get i with
        | some (.box (.sl j r len)) => bif Nat.ble len 4611686018427387904 then (match itA E call draw nt n i j r len s.T p0 p1 asg body len s.H s.nx with
          | some (H', nx') => some (.normal, ⟨s.T, H', nx'⟩)
          | none => none) else none
        | _ => none) else none
      | _, _ => none)
    | c => codeA E call draw nt n c s

/-- slices.Backward's iterator, against whatever the rounds keep. -/
def BackOk (P : Program) (f : Nat) : Prop := (∀ args w, (callFunc f args).run P w = .ok (.enter f args) w) ∧
  ∀ (l Bs len : Nat), len ≤ 4611686018427387904 → ∀ (J : Nat → World → Prop),
    (∀ W, J 0 W → ∃ p cap, W.cell? ⟨Bs, 0, none⟩ = some (.slice p len cap)) →
    (∀ k W, k < len → J k W → ∃ b off cap x, W.cell? ⟨Bs, 0, none⟩ = some (.slice (some ⟨b, off, none⟩) len cap) ∧ W.cell? ⟨b, off + (len - 1 - k), none⟩ = some (.int .i64 x) ∧
      YieldAt (Fz none) 0 P l #[.int .i64 ((len - 1 - k : Nat) : Int), .int .i64 x] W fun e W' => e = .returned (.bool true) ∧ J (k + 1) W') →
    ∀ W, J 0 W → CallsIn (Fz none) 0 P f #[.func (.yield l) #[] #[], .pointer (some ⟨Bs, 0, none⟩)] W fun e W' => (∃ v, e = .returned v) ∧ J len W'

/-- The marks of ranges that are over. -/
def Marks (b0 : Nat) (df : List Deferred) (U : Gh) (w : World) : Prop := b0 ≤ w.heap.size ∧ ∃ Ds : List Nat, df = Ds.map (fun D => { target := .collected D, args := #[] }) ∧ Ds.Nodup ∧ ∀ D ∈ Ds, b0 ≤ D ∧ U.priv D ∧ w.heap[D]? = some (.deferred (some []))
theorem Marks.mono {ρ ρ' : Nat → Loc} {H H' : Heap} {U U' : Gh} {w w' : World} {b0 : Nat} {df : List Deferred} (h : Marks b0 df U w) (X : Ext ρ H U w ρ' H' U' w') : Marks b0 df U' w' := by
  obtain ⟨hb, Ds, h1, h2, h3⟩ := h
  exact ⟨Nat.le_trans hb X.size, Ds, h1, h2, fun D hD => ⟨(h3 D hD).1, (X.keep D (h3 D hD).2.1).2, (X.keep D (h3 D hD).2.1).1.trans (h3 D hD).2.2⟩⟩

section
variable {P : Program} {E : Env} (hE : E.Ok P) {call : CallA} (hc : CallOk P call) {nt : Nat} {bk : Nat → Bool} (hbk : ∀ f, bk f = true → BackOk P f) {draw : Nat → Array Oper → St → Option St} (hd : DrawOk P draw)
include hE hc hbk hd

set_option maxHeartbeats 1000000 in
theorem range_sound {n : Nat} {g : Operand} {ps : Array Tmp} {asg body : Code} {s s' : St} {e : ExA} (h : bodyA E bk call draw nt (n + 1) (.rangeFunc g ps asg body) s = some (e, s')) {df : List Deferred} {ρ : Nat → Loc} {U : Gh} {a : Act} {w : World} {Q : Exit → Act → World → Prop} {b0 : Nat} (S : SR ρ U nt df s a w) (M : Marks b0 df U w)
    (hK : ∀ a' w' ρ' U' df', SR ρ' U' nt df' s' a' w' → Marks b0 df' U' w' → Ext ρ s.H U w ρ' s'.H U' w' → Grow U s.nx U' s'.nx → Q (exOf e) a' w') : (Code.rangeFunc g ps asg body).wpIn (Fz none) 0 P Q a w := by
  simp only [bodyA] at h
  split at h
  case h_2 => cases h
  rename_i f i p0 p1 hg hps
  rw [Bool.cond_eq_ite] at h
  split at h
  case isFalse => cases h
  rename_i hck
  simp only [Bool.and_eq_true] at hck
  obtain ⟨⟨hbf, hp0⟩, hp1⟩ := hck
  have hp0 := bleT hp0
  have hp1 := bleT hp1
  split at h
  case h_2 => cases h
  rename_i j r len hbx
  rw [Bool.cond_eq_ite] at h
  split at h
  case isFalse => cases h
  rename_i hlen
  have hlen := bleT hlen
  split at h <;> cases h
  rename_i H' nx' hit
  have hps' : ps = #[p0, p1] := by apply Array.toList_inj.1; simpa using hps
  subst hps'
  obtain ⟨hen, hback⟩ := hbk f hbf
  -- what the operand holds
  have hgv := evalA_sound S.tr g
  rw [hg] at hgv
  simp only [RV, RVs] at hgv
  obtain ⟨fs, cs, hv, hfs, u1, r2, hcs, ⟨hUi, Bs, rfl, hBs⟩, rfl⟩ := hgv
  have hfs' : fs = #[] := Array.toList_inj.1 (by simpa using hfs)
  have hcs' := arr1 hcs
  subst hfs'; subst hcs'
  refine wpIn_rangeFunc ?_
  intro fn _
  obtain ⟨D, hDe⟩ : ∃ D, D = w.heap.size := ⟨_, rfl⟩
  obtain ⟨l, hle⟩ : ∃ l, l = w.heap.size + 1 := ⟨_, rfl⟩
  obtain ⟨rec, hrec⟩ : ∃ rec : LoopState → Option Code → Loop, rec = fun st pe => { state := st, pending := pe, fn, tmps := a.tmps, params := #[p0, p1], assign := asg, body, defers := D } := ⟨_, rfl⟩
  obtain ⟨W1, hW1⟩ : ∃ W1, (w.alloc (.deferred (some []))).alloc (.loop (rec .ready none)) = W1 := ⟨_, rfl⟩
  have hsz : W1.heap.size = w.heap.size + 2 := by rw [← hW1]; simp
  have hL1 : W1.heap[l]? = some (.loop (rec .ready none)) := by
    rw [← hW1, hle]; have := World.alloc_heap_new (w.alloc (.deferred (some []))) (.loop (rec .ready none)); rwa [World.size_alloc] at this
  have hold : ∀ b, b < w.heap.size → W1.heap[b]? = w.heap[b]? := by
    intro b hb
    rw [← hW1]
    exact (heap_push_lt _ _ (by rw [World.size_alloc]; omega)).trans (heap_push_lt w _ hb)
  have hD1 : W1.heap[D]? = some (.deferred (some [])) := by
    rw [← hW1, hDe]
    exact (heap_push_lt (w.alloc _) _ (by rw [World.size_alloc]; omega)).trans (World.alloc_heap_new w _)
  obtain ⟨X1, R1⟩ := two_new (D := D) (l := l) (w1 := W1) S.rel (by omega) (by omega) (by omega) (by omega) hold (by omega) (by rw [← hW1]; rfl) (by rw [← hW1]; rfl) (by rw [← hW1]; rfl)
  refine ⟨l, [{ target := .collected D, args := #[] }], W1, { target := .fn (.func f) #[.pointer (some ⟨Bs, 0, none⟩)], args := #[.func (.yield l) #[] #[]] }, W1, f, #[.func (.yield l) #[] #[]] ++ #[.pointer (some ⟨Bs, 0, none⟩)], W1, ?_, ?_, fun _ _ => trivial, ?_, fun hh => (by cases hh), ?_⟩
  · rw [← hW1, hrec, hle, hDe]; exact run_enterLoop_outer _ _ _ _ _
  · simp only [resolve, hv]
    simp [go_sem]
  · simp [invoke, go_sem, hen]
  · -- between two rounds
    let J : Nat → World → Prop := fun k W => W.heap[l]? = some (.loop (rec .ready none)) ∧ W.heap[D]? = some (.deferred (some [])) ∧ ∃ ρ1 U1 H1 nx1, itA E call draw nt n i j r len s.T p0 p1 asg body (len - k) H1 nx1 = some (H', nx') ∧
      TR ρ1 H1 U1 W s.T a.tmps ∧ Rel ρ1 H1 U1 W ∧ Bound U1 nx1 ∧ Ext ρ s.H U w ρ1 H1 U1 W ∧ Grow U s.nx U1 nx1 ∧ U1.priv l ∧ U1.priv D ∧ (k = 0 → ∃ p cap, W.cell? ⟨Bs, 0, none⟩ = some (.slice p len cap))
    -- the box, the element
    have look : ∀ {ρ1 : Nat → Loc} {U1 : Gh} {H1 : Heap} {W : World}, TR ρ1 H1 U1 W s.T a.tmps → Rel ρ1 H1 U1 W → H1.get i = some (.box (.sl j r len)) → ∃ ad cap, W.cell? ⟨Bs, 0, none⟩ = some (.slice (some ad) len cap) ∧
        ∀ rs, H1.get j = some (.rows 1 rs) → ∃ b off, ad = ⟨b, off, none⟩ ∧ ∀ m x, rs[r + m]? = some [.int .i64 x] → W.cell? ⟨b, off + m, none⟩ = some (.int .i64 x) := by
      intro ρ1 U1 H1 W hT R hb
      have hgv := evalA_sound hT g
      rw [hg] at hgv
      rw [hv] at hgv
      simp only [RV, RVs] at hgv
      obtain ⟨fs, cs, e1, _, u1, r2, hcs, ⟨hUi, B2, e2, hB2⟩, rfl⟩ := hgv
      simp only [Value.func.injEq, Fn.func.injEq] at e1
      obtain ⟨_, rfl, rfl⟩ := e1
      subst e2
      have hB3 := hB2 _ hb
      have hBB : Bs = B2 := by simpa using hcs
      subst hBB
      subst hB3
      obtain ⟨_, hlt, v, t, fr, k1, k2⟩ := R.obj i _ hUi hb
      simp only [RV] at k2
      obtain ⟨hUj, ad, c, rfl, hle, hrs⟩ := k2
      refine ⟨ad, c, by simp [World.cell?, k1], fun rs hrs1 => ?_⟩
      obtain ⟨e3, _⟩ := hrs 1 rs hrs1
      refine ⟨_, _, e3, fun m x hx => ?_⟩
      obtain ⟨_, hltj, _, cs, t', fr', q1, q2, q3, q4⟩ := R.obj j _ hUj hrs1
      obtain ⟨_, hrr⟩ := (RRs_iff.1 q4) (r + m) _ hx
      simp only [RR, and_true] at hrr
      obtain ⟨v, hv1, hv2⟩ := hrr
      simp only [RV] at hv2
      subst hv2
      rw [show (ρ1 j).o + r * 1 + m = (ρ1 j).o + (r + m) * 1 by omega]
      exact hv1
    have hJ0 : J 0 W1 := by
      have hT1 : TR ρ s.H (U.two D l) W1 s.T a.tmps := TR.mono X1.toExt0 S.tr
      refine ⟨hL1, hD1, ρ, U.two D l, s.H, s.nx, hit, hT1, R1, S.bound, X1, ⟨Nat.le_refl _, fun i hi => .inl hi⟩, .inr (.inr rfl), .inr (.inl rfl), fun _ => ?_⟩
      obtain ⟨ad, cap, h1, _⟩ := look hT1 R1 hbx
      exact ⟨_, _, h1⟩
    refine (hback l Bs len hlen J (fun W hJ => ?_) (fun k W hk hJ => ?_) W1 hJ0).mono ?_
    · obtain ⟨_, _, _, _, _, _, _, _, _, _, _, _, _, _, h0⟩ := hJ
      exact h0 rfl
    · -- a round
      obtain ⟨hl, hdd, ρ1, U1, H1, nx1, hi1, hT, R, B1, X, G, pl, pD, _⟩ := hJ
      rw [show len - k = (len - 1 - k) + 1 by omega] at hi1
      simp only [itA] at hi1
      split at hi1
      case h_2 => cases hi1
      rename_i j' r' n' hbx1
      rw [Bool.cond_eq_ite] at hi1
      split at hi1
      case isFalse => cases hi1
      rename_i hck1
      simp only [Bool.and_eq_true] at hck1
      obtain ⟨⟨q1, q2⟩, q3⟩ := hck1
      have q1 := beqT q1
      have q2 := beqT q2
      have q3 := beqT q3
      subst q1; subst q2; subst q3
      split at hi1
      case h_2 => cases hi1
      rename_i rs hrs
      split at hi1
      case h_2 => cases hi1
      rename_i x hx
      split at hi1
      case h_2 => cases hi1
      rename_i s1 hs1
      split at hi1
      case h_2 => cases hi1
      rename_i s2 hs2
      obtain ⟨ad, cap, c1, c2⟩ := look hT R hbx1
      obtain ⟨b, off, rfl, c3⟩ := c2 rs hrs
      have hy := run_yield (P := P) (args := #[.int .i64 ((n' - 1 - k : Nat) : Int), .int .i64 x]) hl (by rw [hrec]; rfl)
      refine ⟨b, off, cap, x, c1, c3 _ _ hx, _, _, _, _, hy, roundIn_of_wpIn (F := Fz none) trivial ?_⟩
      -- the temporaries of a round
      have pa : putA nt s.T (some p0) (.int .i64 (.ofNat (n' - 1 - k))) = some (s.T.set p0 (.int .i64 (.ofNat (n' - 1 - k)))) := by
        simp only [putA, Nat.ble_eq_true_of_le hp0, cond_true]
      have pb : putA nt (s.T.set p0 (.int .i64 (.ofNat (n' - 1 - k)))) (some p1) (.int .i64 x) = some ((s.T.set p0 (.int .i64 (.ofNat (n' - 1 - k)))).set p1 (.int .i64 x)) := by
        simp only [putA, Nat.ble_eq_true_of_le hp1, cond_true]
      obtain ⟨ta, sa, _⟩ := TR.put (a := a) (v := .int .i64 ((n' - 1 - k : Nat) : Int)) hT (by simp only [RV]; rfl) S.size pa
      obtain ⟨tb, sb, _⟩ := TR.put (v := .int .i64 x) ta (by simp only [RV]) sa pb
      have S1 : SR ρ1 U1 nt [] ⟨(s.T.set p0 (.int .i64 (.ofNat (n' - 1 - k)))).set p1 (.int .i64 x), H1, nx1⟩ { tmps := ((rec .ready none).params.zip #[.int .i64 ((n' - 1 - k : Nat) : Int), .int .i64 x]).foldl (fun tmps (t, a) => tmps.setIfInBounds t a) (rec .ready none).tmps, defers := [] } W := by
        refine ⟨?_, R, B1, ?_, rfl⟩
        · rw [hrec]
          simpa [Act.put] using tb
        · rw [hrec]
          simpa [Act.put] using sb
      have c9 := codeA_sound (r := some l) hE hc hd n asg _ _ s1 hs1 ρ1 U1 _ W (Exit.then (fun a₁ w₁ => ∃ w₂, (Instr.beginRound l).run P w₁ = .ok () w₂ ∧ body.wpIn ((Fz none).inRound l) 0 P (roundPost P l fun e W' => e = .returned (.bool true) ∧ J (k + 1) W') a₁ w₂) (fun _ _ _ => False)) S1 (fun a1 w1 ρ2 U2 S2 X2 G2 => ?_)
      · rw [hrec] at c9 ⊢
        exact c9
      · have hl2 : w1.heap[l]? = some (.loop (rec .ready none)) := (X2.keep l pl).1.trans hl
        have pl2 := (X2.keep l pl).2
        have pD2 := (X2.keep D pD).2
        have hd2 : w1.heap[D]? = some (.deferred (some [])) := (X2.keep D pD).1.trans hdd
        refine ⟨_, run_beginRound hl2 (by rw [hrec]), ?_⟩
        obtain ⟨w2, hw2⟩ : ∃ w2, w1.putObj l (.loop { rec .ready none with state := .busy }) = w2 := ⟨_, rfl⟩
        rw [hw2]
        have hl3 : w2.heap[l]? = some (.loop { rec .ready none with state := .busy }) := by rw [← hw2]; exact World.putObj_heap_same (Array.getElem?_eq_some_iff.1 hl2).1
        have hd3 : w2.heap[D]? = some (.deferred (some [])) := by rw [← hw2]; exact (World.putObj_heap_other (by omega)).trans hd2
        have R3 : Rel ρ2 s1.H U2 w2 := by rw [← hw2]; exact put_rel S2.rel pl2
        have Y3 : Ext0 ρ2 s1.H U2 w1 ρ2 s1.H U2 w2 := by rw [← hw2]; exact put_ext0 S2.rel pl2
        have X3 : Ext ρ s.H U w ρ2 s1.H U2 w2 := by rw [← hw2]; exact Ext.put S.rel (X.trans X2) S2.rel pl2 (by omega)
        have S3 : SR ρ2 U2 nt [] s1 a1 w2 := ⟨TR.mono Y3 S2.tr, R3, S2.bound, S2.size, S2.defers⟩
        refine codeA_sound (r := some l) hE hc hd n body _ _ s2 hs2 ρ2 U2 _ w2 (roundPost P l fun e W' => e = .returned (.bool true) ∧ J (k + 1) W') S3 (fun a3 w3 ρ4 U4 S4 X4 G4 => ?_)
        have pl4 := (X4.keep l pl2).2
        have pD4 := (X4.keep D pD2).2
        have hl4 : w3.heap[l]? = some (.loop { rec .ready none with state := .busy }) := (X4.keep l pl2).1.trans hl3
        have hd4 : w3.heap[D]? = some (.deferred (some [])) := (X4.keep D pD2).1.trans hd3
        obtain ⟨w5, hw5⟩ : ∃ w5, w3.putObj l (.loop (rec .ready none)) = w5 := ⟨_, rfl⟩
        refine ⟨.bool true, w5, ?_, rfl, ?_⟩
        · have := run_endRound (P := P) none hl4
          rw [hrec] at this
          rw [← hw5, hrec]
          exact this
        · have Y5 : Ext0 ρ4 s2.H U4 w3 ρ4 s2.H U4 w5 := by rw [← hw5]; exact put_ext0 S4.rel pl4
          refine ⟨by rw [← hw5]; exact World.putObj_heap_same (Array.getElem?_eq_some_iff.1 hl4).1, by rw [← hw5]; exact (World.putObj_heap_other (by omega)).trans hd4, ρ4, U4, s2.H, s2.nx, ?_, ?_, by rw [← hw5]; exact put_rel S4.rel pl4, S4.bound, by rw [← hw5]; exact Ext.put S.rel (X3.trans X4) S4.rel pl4 (by omega), G.trans (G2.trans G4), pl4, pD4, fun h => by omega⟩
          · rw [show n' - (k + 1) = n' - 1 - k by omega]; exact hi1
          · exact TR.mono (((X2.toExt0.trans Y3).trans X4.toExt0).trans Y5) hT
    · -- behind the last
      rintro e W2 ⟨⟨v, rfl⟩, hl, hdd, ρ1, U1, H1, nx1, hi1, hT, R, B1, X, G, pl, pD, _⟩
      simp only [Nat.sub_self, itA, Option.some.injEq, Prod.mk.injEq] at hi1
      obtain ⟨rfl, rfl⟩ := hi1
      refine ⟨none, _, by have := run_endLoop (P := P) hl (by rw [hrec]; simp); rw [hrec] at this; exact this, ?_⟩
      have Y : Ext0 ρ1 H1 U1 W2 ρ1 H1 U1 (W2.putObj l (.loop { rec .ready none with state := .exhausted })) := put_ext0 R pl
      have X9 := Ext.put (o := .loop { rec .ready none with state := .exhausted }) S.rel X R pl (by omega)
      rw [hrec] at Y X9
      refine hK _ _ ρ1 U1 ({ target := .collected D, args := #[] } :: df) ⟨TR.mono Y hT, put_rel R pl, B1, S.size, by simp [S.defers]⟩ ?_ X9 G
      obtain ⟨m0, Ds, m1, m2, m3⟩ := M.mono X9
      refine ⟨m0, D :: Ds, by rw [m1]; rfl, ?_, ?_⟩
      · rw [List.nodup_cons]
        refine ⟨fun hm => ?_, m2⟩
        obtain ⟨_, Ds0, n1, n2, n3⟩ := M
        have : Ds = Ds0 := by
          rw [n1] at m1
          exact ((List.map_inj_right (fun a b h => by simpa using h)).1 m1).symm
        subst this
        have := (S.rel.priv D (n3 D hm).2.1).1
        omega
      · intro D' hD'
        rcases List.mem_cons.1 hD' with rfl | hD'
        · exact ⟨by have := M.1; omega, pD, (World.putObj_heap_other (by omega)).trans hdd⟩
        · exact m3 D' hD'
theorem bodyA_sound {b0 : Nat} : ∀ (n : Nat) (c : Code) (s : St) (e : ExA) (s' : St), bodyA E bk call draw nt n c s = some (e, s') →
    ∀ (df : List Deferred) (ρ : Nat → Loc) (U : Gh) (a : Act) (w : World) (Q : Exit → Act → World → Prop), SR ρ U nt df s a w → Marks b0 df U w →
    (∀ a' w' ρ' U' df', SR ρ' U' nt df' s' a' w' → Marks b0 df' U' w' → Ext ρ s.H U w ρ' s'.H U' w' → Grow U s.nx U' s'.nx → Q (exOf e) a' w') → c.wpIn (Fz none) 0 P Q a w := by
  intro n
  induction n with
  | zero => intro c s e s' h; simp [bodyA] at h
  | succ n ih =>
    intro c s e s' h df ρ U a w Q S M hK
    have plain : codeA E call draw nt n c s = some (e, s') → c.wpIn (Fz none) 0 P Q a w := fun h1 =>
      codeA_sound (r := none) hE hc hd n c s e s' h1 ρ U a w Q S fun a' w' ρ' U' S' X G => hK a' w' ρ' U' df S' (M.mono X) X G
    cases c
    case rangeFunc g ps asg body => exact range_sound hE hc hbk hd h S M hK
    case seq x y =>
      simp only [bodyA] at h
      cases hx : bodyA E bk call draw nt n x s with
      | none => simp [hx] at h
      | some p =>
        obtain ⟨e1, s1⟩ := p
        cases e1 with
        | normal =>
          simp only [hx] at h
          exact wpIn_seq (ih x s _ s1 hx df ρ U a w _ S M fun a1 w1 ρ1 U1 df1 S1 M1 X1 G1 => ih y s1 e s' h df1 ρ1 U1 a1 w1 Q S1 M1 fun a' w' ρ' U' df' S' M' X' G' => hK a' w' ρ' U' df' S' M' (X1.trans X') (G1.trans G'))
        | exit id => simp only [hx, Option.some.injEq, Prod.mk.injEq] at h; obtain ⟨rfl, rfl⟩ := h; exact wpIn_seq (ih x s _ s1 hx df ρ U a w _ S M hK)
        | ret => simp only [hx, Option.some.injEq, Prod.mk.injEq] at h; obtain ⟨rfl, rfl⟩ := h; exact wpIn_seq (ih x s _ s1 hx df ρ U a w _ S M hK)
    case cond x c1 c2 =>
      simp only [bodyA] at h
      have hx := evalA_sound S.tr x
      split at h
      · rename_i he; rw [he] at hx; simp only [RV] at hx
        exact wpIn_cond_true hx (ih c1 s e s' h df ρ U a w Q S M hK)
      · rename_i he; rw [he] at hx; simp only [RV] at hx
        exact wpIn_cond_false hx (ih c2 s e s' h df ρ U a w Q S M hK)
      · cases h
    case block id b =>
      simp only [bodyA] at h
      cases hx : bodyA E bk call draw nt n b s with
      | none => simp [hx] at h
      | some p =>
        obtain ⟨e1, s1⟩ := p
        refine wpIn_block (ih b s e1 s1 hx df ρ U a w _ S M fun a1 w1 ρ1 U1 df1 S1 M1 X1 G1 => ?_)
        cases e1 with
        | normal => simp only [hx, Option.some.injEq, Prod.mk.injEq] at h; obtain ⟨rfl, rfl⟩ := h; exact hK a1 w1 ρ1 U1 df1 S1 M1 X1 G1
        | ret => simp only [hx, Option.some.injEq, Prod.mk.injEq] at h; obtain ⟨rfl, rfl⟩ := h; exact hK a1 w1 ρ1 U1 df1 S1 M1 X1 G1
        | exit id' =>
          simp only [hx] at h
          cases hb : Nat.beq id' id with
          | true =>
            rw [hb, cond_true] at h
            simp only [Option.some.injEq, Prod.mk.injEq] at h
            obtain ⟨rfl, rfl⟩ := h
            have := beqT hb
            subst this
            simp only [exOf, Exit.inBlock, if_true]
            exact hK a1 w1 ρ1 U1 df1 S1 M1 X1 G1
          | false =>
            rw [hb, cond_false] at h
            simp only [Option.some.injEq, Prod.mk.injEq] at h
            obtain ⟨rfl, rfl⟩ := h
            have hne : id' ≠ id := fun e => by subst e; rw [beq_true] at hb; cases hb
            simp only [exOf, Exit.inBlock, if_neg hne]
            exact hK a1 w1 ρ1 U1 df1 S1 M1 X1 G1
    all_goals exact plain (by simpa only [bodyA] using h)
end

/-! ### Functions -/
def runB (E : Env) (bk : Nat → Bool) (call : CallA) (draw : DrawA) (fuel : Nat) (f : Nat) (args : List AV) (H : Heap) (nx : Nat) : R3 :=
  match E.fn.get f with
  | some fn => match fn.body with
    | some c => bif Nat.ble args.length fn.ntmps then (match bodyA E bk call (draw call) fn.ntmps fuel c ⟨argsT args 0 .lf, H, nx⟩ with
      | some (.exit _, _) => none
      | some (_, s) => match resultsA E s fn.results.toList with
        | some [x] => some (x, s.H, s.nx)
        | some xs => some (.tup xs, s.H, s.nx)
        | none => none
      | none => none) else none
    | none => none
  | none => none
def callB (E : Env) (prim : Nat → Option PrimA) (bk : Nat → Bool) (draw : DrawA) (fuel : Nat) : Nat → CallA
  | 0 => fun _ _ _ _ => none
  | n + 1 => fun f args H nx => match prim f with
    | some p => p args H nx
    | none => runB E bk (callB E prim bk draw fuel n) draw fuel f args H nx

section
variable {P : Program} {E : Env} (hE : E.Ok P) {bk : Nat → Bool} (hbk : ∀ f, bk f = true → BackOk P f)

/-- The marks are come to, one by one. -/
theorem leaves_marks {fn : Func} {tmps : Array Value} {R : Ending → World → Prop} {b0 : Nat} : ∀ (Ds : List Nat) (ρ : Nat → Loc) (H : Heap) (U : Gh) (w : World), Rel ρ H U w → Ds.Nodup → (∀ D ∈ Ds, b0 ≤ D ∧ U.priv D ∧ w.heap[D]? = some (.deferred (some []))) →
    (∀ w', Rel ρ H U w' → Ext0 ρ H U w ρ H U w' → (∀ (ρ0 : Nat → Loc) (H0 : Heap) (U0 : Gh) (w0 : World), Rel ρ0 H0 U0 w0 → w0.heap.size = b0 → Ext ρ0 H0 U0 w0 ρ H U w → Ext ρ0 H0 U0 w0 ρ H U w') → ∃ v, (results fn tmps).run P w' = .ok v w' ∧ R (.returned v) w') →
    LeavesInM (Fz none) 0 P fn tmps R (Ds.map fun D => { target := .collected D, args := #[] }) .returning w
  | [], ρ, H, U, w, Rl, _, _, hK => by
    obtain ⟨v, h1, h2⟩ := hK w Rl (Ext0.refl _ _ _ _) (fun _ _ _ _ _ _ X => X)
    simp only [List.map_nil, LeavesInM, LeavesIn]
    exact ⟨v, h1, h2⟩
  | D :: Ds, ρ, H, U, w, Rl, hn, hD, hK => by
    simp only [List.map_cons, LeavesInM]
    obtain ⟨d0, d1, d2⟩ := hD D (List.mem_cons_self ..)
    refine ⟨by simp, .inl ⟨D, _, rfl, run_takeDeferred d2, ?_⟩⟩
    have hn' := List.nodup_cons.1 hn
    refine leaves_marks Ds ρ H U _ (put_rel Rl d1) hn'.2 (fun D' hD' => ?_) (fun w' R' X' Y' => hK w' R' ((put_ext0 Rl d1).trans X') fun ρ0 H0 U0 w0 R0 hs X => Y' ρ0 H0 U0 w0 R0 hs (Ext.put R0 X Rl d1 (by omega)))
    obtain ⟨e0, e1, e2⟩ := hD D' (List.mem_cons_of_mem _ hD')
    exact ⟨e0, e1, (World.putObj_heap_other fun e : D' = D => hn'.1 (e ▸ hD')).trans e2⟩

include hE hbk
theorem runB_sound {call : CallA} {draw : DrawA} {fuel : Nat} (hc : CallOk P call) (hd : DrawOk P (draw call)) (f : Nat) : FnOk P f (runB E bk call draw fuel f) := by
  intro args H nx y H' nx' h ρ U w vs R B hv
  unfold runB at h
  split at h
  case h_2 => cases h
  rename_i fn hf
  obtain ⟨hf1, hf2⟩ := hE.fn _ _ hf
  split at h
  case h_2 => cases h
  rename_i c hb
  cases hbl : Nat.ble args.length fn.ntmps with
  | false => rw [hbl, cond_false] at h; cases h
  | true =>
    rw [hbl, cond_true] at h
    have hle := bleT hbl
    have hl := RVs_length hv
    have hf2' : fn.name ≠ "runtime.NumGoroutine" := by simpa using hf2
    refine .inr ⟨by simp [callFunc, run_program, hf1, hf2', hb], ?_⟩
    have S : SR ρ U fn.ntmps [] ⟨argsT args 0 .lf, H, nx⟩ { tmps := vs ++ Array.replicate (fn.ntmps - vs.size) undef, defers := [] } w :=
      ⟨args_TR hv _, R, B, by simp at hl ⊢; omega, rfl⟩
    have fin : ∀ (s : St) (a' : Act) (w1 : World) (ρ' : Nat → Loc) (U' : Gh) (df : List Deferred), (match resultsA E s fn.results.toList with | some [x] => some (x, s.H, s.nx) | some xs => some (.tup xs, s.H, s.nx) | none => none) = some (y, H', nx') →
        SR ρ' U' fn.ntmps df s a' w1 → Marks w.heap.size df U' w1 → Ext ρ H U w ρ' s.H U' w1 → Grow U nx U' s.nx → LeavesInM (Fz none) 0 P fn a'.tmps (fun e w' => ∃ v, e = .returned v ∧ Ret ρ H U w y H' nx nx' v w') a'.defers .returning w1 := by
      intro s a' w1 ρ' U' df hr S' M X G
      obtain ⟨_, Ds, m1, m2, m3⟩ := M
      rw [S'.defers, m1]
      refine leaves_marks (b0 := w.heap.size) Ds ρ' s.H U' w1 S'.rel m2 m3 fun w' R' Y Z => ?_
      have X' := Z ρ H U w R rfl X
      have tr' := TR.mono Y S'.tr
      split at hr <;> cases hr
      · rename_i hx
        obtain ⟨us, h1, h2⟩ := results_sound (P := P) hE tr' R' hx
        simp only [RVs] at h2
        obtain ⟨u, r, rfl, h3, rfl⟩ := h2
        exact ⟨u, h1, u, rfl, ρ', U', h3, R', X', G⟩
      · rename_i xs hne hx
        obtain ⟨us, h1, h2⟩ := results_sound (P := P) hE tr' R' hx
        have hlen := RVs_length h2
        have h1' : (results fn a'.tmps).run P w' = .ok (.tuple us.toArray) w' := by
          rw [h1]
          match us with
          | [] => rfl
          | [u] =>
            exfalso
            cases xs with
            | nil => simp at hlen
            | cons x xs => cases xs with
              | nil => exact hne x rfl
              | cons => simp at hlen
          | u :: u2 :: us => rfl
        exact ⟨_, h1', _, rfl, ρ', U', by simp only [RV]; exact ⟨_, rfl, h2⟩, R', X', G⟩
    split at h
    · cases h
    · rename_i e s hne hx
      have M0 : Marks w.heap.size [] U w := ⟨Nat.le_refl _, [], rfl, List.nodup_nil, fun D hD => (by cases hD)⟩
      refine (callsIn_wide (n := 0)).1 (callsIn_of_wp_marks (F := Fz none) hf1 hb trivial ?_)
      refine bodyA_sound hE hc hbk hd fuel c _ e s hx [] ρ U _ w _ S M0 (fun a' w' ρ' U' df' S' M' X G => ?_)
      have := fin s a' w' ρ' U' df' h S' M' X G
      cases e with
      | normal => exact this
      | ret => exact this
      | exit id => exact (hne id rfl).elim
    · cases h

theorem callB_sound {prim : Nat → Option PrimA} {draw : DrawA} {fuel : Nat} (hp : ∀ f p, prim f = some p → FnOk P f p) (hd : ∀ call, CallOk P call → DrawOk P (draw call)) : ∀ n, CallOk P (callB E prim bk draw fuel n)
  | 0 => by intro f args H nx y H' nx' h; simp [callB] at h
  | n + 1 => by
    have ih := callB_sound hp hd (fuel := fuel) n
    intro f args H nx y H' nx' h
    simp only [callB] at h
    split at h
    · rename_i p hpf
      exact hp f p hpf args H nx y H' nx' h
    · exact runB_sound hE hbk ih (hd _ ih) f args H nx y H' nx' h
end
end Go.Cl
