/- WorldFull answers true. -/
import Derived.Test.YtpgdhlnocgfjcaaGreatDoorWfH
import Derived.Test.YtpgdhlnocgfjcaaGreatDoorWfI
set_option linter.unusedVariables false
namespace Go.Cl.Wf
open Go.Proofs Go.RowKit

theorem forceT_eq {α : Type} : ∀ (T : Tr α) (k : Tr α → Bool), forceT T k = true → k T = true
  | .lf, k, h => h
  | .nd v l r, k, h => by
    have h1 : forceT l (fun l' => forceT r fun r' => k (.nd v l' r')) = true := h
    exact forceT_eq r _ (forceT_eq l _ h1)
  | .ov _ _ _, k, h => by cases h
theorem fromX_run {c : Code} {lt : List (Nat × AV)} {lh : List (Nat × AO)} {nx : Nat} {k : KX} (h : fromX c lt lh nx k = true) : runX c (mkT lt) (mkT lh) nx k = true := forceT_eq _ _ (forceT_eq _ _ h)
theorem thenC_spec {e : ExA} {b : Bool} (h : thenC e b = true) : e = .normal ∧ b = true := by
  cases e with
  | normal => exact ⟨rfl, h⟩
  | exit id => cases h
  | ret => cases h
theorem retC_spec {e : ExA} {b : Bool} (h : retC e b = true) : e = .ret ∧ b = true := by
  cases e with
  | normal => cases h
  | exit id => cases h
  | ret => exact ⟨rfl, h⟩
theorem exitC_spec {id : Nat} {e : ExA} {b : Bool} (h : exitC id e b = true) : e = .exit id ∧ b = true := by
  cases e with
  | normal => cases h
  | ret => cases h
  | exit i =>
    cases hb : Nat.beq i id with
    | false =>
      have h1 : (Bool.rec (motive := fun _ => Bool) false b (Nat.beq i id)) = true := h
      rw [hb] at h1; cases h1
    | true =>
      have h1 : (Bool.rec (motive := fun _ => Bool) false b (Nat.beq i id)) = true := h
      rw [hb] at h1
      exact ⟨by rw [beqT hb], h1⟩

theorem runX_sound {c : Code} {T : Tr AV} {H : Heap} {nx : Nat} {k : KX} (h : runX c T H nx k = true) {w0 : World} {df : List Deferred} {ρ : Nat → Loc} {U : Gh} {a : Act} {w : World} {Q : Exit → Act → World → Prop} (S : SR ρ U 50 df ⟨T, H, nx⟩ a w) (O : Old w0 ρ H U w)
    (hK : ∀ e s' a' w' ρ' U', k e s'.T s'.H s'.nx = true → SR ρ' U' 50 df s' a' w' → Old w0 ρ' s'.H U' w' → U'.J = U.J → U'.N = U.N → Q (exOf e) a' w') : c.wpIn (Fz none) 0 P Q a w := by
  obtain ⟨e, s', g1, g2⟩ := xb_spec (callX_spec (E := E) (prim := prim) (bk := bk) (F := 1000000) 100) (E := E) (nt := 50) 1000000 c T H nx k h
  exact codeA_sound (r := none) E_ok (call_ok 1000000 100) (drawA_ok E_ok (call_ok 1000000 100) follows) 1000000 c _ e s' g1 ρ U a w Q S fun a' w' ρ' U' S' X G => hK e s' a' w' ρ' U' g2 S' (O.ext X) X.jj.1 X.jj.2

theorem nm0_less {ρ : Nat → Loc} {H H2 : Heap} {U U2 : Gh} {w : World} : ∀ x y v, nm0 x y = true → RV ρ H U w x v → RV ρ H2 U2 w y v := fun x y v h => by cases h

/-- What holds between two rounds. -/
def At (w0 : World) (n : Int) (lt : List (Nat × AV)) (lh : List (Nat × AO)) (nx : Nat) (J : Nat → Prop) (a : Act) (w : World) : Prop := ∃ ρ U, U.N = n ∧ J U.J ∧ SR ρ U 50 [] ⟨mkT lt, mkT lh, nx⟩ a w ∧ Old w0 ρ (mkT lh) U w

/-- On from a literal state. -/
theorem At.run {w0 : World} {n : Int} {lt : List (Nat × AV)} {lh : List (Nat × AO)} {nx : Nat} {J : Nat → Prop} {a : Act} {w : World} (A : At w0 n lt lh nx J a w) {c : Code} {k : KX} (h : fromX c lt lh nx k = true) {Q : Exit → Act → World → Prop}
    (hK : ∀ e s' a' w' ρ' U', k e s'.T s'.H s'.nx = true → SR ρ' U' 50 [] s' a' w' → Old w0 ρ' s'.H U' w' → J U'.J → U'.N = n → Q (exOf e) a' w') : c.wpIn (Fz none) 0 P Q a w := by
  obtain ⟨ρ, U, hN, hJ, S, O⟩ := A
  exact runX_sound (fromX_run h) S O fun e s' a' w' ρ' U' k1 S1 O1 j1 n1 => hK e s' a' w' ρ' U' k1 S1 O1 (j1 ▸ hJ) (n1.trans hN)
/-- A state is covered. -/
theorem At.of {w0 : World} {n : Int} {s : St} {ρ : Nat → Loc} {U : Gh} {a : Act} {w : World} (S : SR ρ U 50 [] s a w) (O : Old w0 ρ s.H U w) (hN : U.N = n) {nm : AV → AV → Bool} (J2 : Nat) {lt : List (Nat × AV)} {lh : List (Nat × AO)} {nx : Nat} (h : covS nm lt lh nx s.T s.H = true)
    (hnm : ∀ x y v, nm x y = true → RV ρ s.H U w x v → RV ρ (mkT lh) (U.only (namesOf lh) J2) w y v) {J : Nat → Prop} (hJ : J J2) : At w0 n lt lh nx J a w := by
  obtain ⟨S', O'⟩ := SR.less S O h hnm
  exact ⟨ρ, U.only (namesOf lh) J2, hN, hJ, S', O'⟩

theorem tmps_get (i : AV) : (mkT (tmps i)).get 9 = some i := by
  simp [tmps, mkT, Tr.get_set]
theorem tmps2_get (i : Nat) : (mkT (tmps2 i)).get 11 = some (.int .i64 (.ofNat i)) := by
  simp [tmps2, mkT, Tr.get_set]
theorem tmps2_get1 (i : Nat) : (mkT (tmps2 i)).get 1 = some .un := by
  simp [tmps2, mkT, Tr.get_set]

/-- How far a loop is. -/
def far (t : Nat) (a : Act) : Nat := match a.tmps.getD t undef with | .int _ m => (1000 - m).toNat | _ => 0

set_option maxHeartbeats 1000000 in
theorem body_ok {w0 : World} {n : Nat} (hn : n < 256) {a : Act} {ρ : Nat → Loc} {U : Gh} (hN : U.N = (n : Int)) (S : SR ρ U 50 [] ⟨argsT args 0 .lf, .lf, 0⟩ a w0) (O : Old w0 ρ .lf U w0) {R : Ending → World → Prop}
    (hR : ∀ w', Below w0.heap.size w0 w' → R (.returned (.bool true)) w') :
    (Code.seq R0 (.seq R1 (.seq R2 (.seq R3 (.seq (.seq R5 (.block 0 (.loop B1))) (.seq R10 (.seq (.seq R11 (.block 2 (.loop (.seq R12 (.seq R13 R14))))) R16))))))).wpIn (Fz none) 0 P (bodyPost P Tryz.f3 R) a w0 := by
  refine wpIn_seq (runX_sound K1 S O fun e s1 a1 w1 ρ1 U1 k1 S1 O1 j1 n1 => ?_)
  have z := thenC_spec k1; clear k1; obtain ⟨rfl, k1⟩ := z
  refine wpIn_seq (runX_sound k1 S1 O1 fun e s2 a2 w2 ρ2 U2 k2 S2 O2 j2 n2 => ?_)
  have z := thenC_spec k2; clear k2; obtain ⟨rfl, k2⟩ := z
  refine wpIn_seq (runX_sound k2 S2 O2 fun e s3 a3 w3 ρ3 U3 k3 S3 O3 j3 n3 => ?_)
  have z := thenC_spec k3; clear k3; obtain ⟨rfl, k3⟩ := z
  refine wpIn_seq (runX_sound k3 S3 O3 fun e s4 a4 w4 ρ4 U4 k4 S4 O4 j4 n4 => ?_)
  have z := thenC_spec k4; clear k4; obtain ⟨rfl, k4⟩ := z
  refine wpIn_seq (wpIn_seq (runX_sound k4 S4 O4 fun e s5 a5 w5 ρ5 U5 k5 S5 O5 j5 n5 => ?_))
  have z := thenC_spec k5; clear k5; obtain ⟨rfl, k5⟩ := z
  have A5 : At w0 n (tmps (.int .i64 0)) (base false (.int .i64 0)) 886 (fun _ => True) a5 w5 := At.of S5 O5 (by rw [n5, n4, n3, n2, n1, hN]) 0 k5 nm0_less trivial
  -- the first loop
  refine wpIn_block (wpIn_loop (fun a w => At w0 n (tmps (.int .i64 0)) (base false (.int .i64 0)) 886 (fun _ => True) a w ∨ At w0 n (tmps (.sy 0)) (base true (.sy 0)) 886 (fun J => 1 ≤ J ∧ J < 400) a w ∨ At w0 n (tmps (.int .i64 400)) (base true (.int .i64 400)) 886 (fun _ => True) a w)
    (fun a _ => far 9 a) (.inl A5) ?_)
  have at9 : ∀ {i : AV} {lh : List (Nat × AO)} {J : Nat → Prop} {a : Act} {w : World}, At w0 n (tmps i) lh 886 J a w → ∃ ρ U, J U.J ∧ RV ρ (mkT lh) U w i (a.tmps.getD 9 undef) := by
    rintro i lh J a w ⟨ρ, U, _, hJ, S, _⟩
    exact ⟨ρ, U, hJ, S.tr 9 i (tmps_get i)⟩
  intro a6 w6 hI
  rcases hI with A | A | A
  · -- the first round
    obtain ⟨_, _, _, hv⟩ := at9 A
    simp only [RV] at hv
    refine A.run K2 fun e s' a' w' ρ' U' k S' O' _ nn => ?_
    have z := thenC_spec k; clear k; obtain ⟨rfl, k⟩ := z
    have A' : At w0 n (tmps (.sy 0)) (base true (.sy 0)) 886 (fun J => 1 ≤ J ∧ J < 400) a' w' := At.of S' O' nn 1 k (fun x y v h hx => by
      unfold nm1 at h
      split at h
      · rename_i m c
        have h := beqT h
        simp only [RV] at hx ⊢
        subst hx
        exact ⟨by rw [h]; rfl, by show (1 : Nat) < 400; omega⟩
      · cases h) ⟨Nat.le_refl _, by omega⟩
    refine ⟨.inr (.inl A'), ?_⟩
    obtain ⟨_, U2, hJ, hv2⟩ := at9 A'
    simp only [RV] at hv2
    simp only [far, hv, hv2.1]
    omega
  · -- one more
    obtain ⟨_, U1, hJ1, hv⟩ := at9 A
    simp only [RV] at hv
    obtain ⟨ρq, Uq, hNq, hJq, Sq, Oq⟩ := A
    have hvq := Sq.tr 9 _ (tmps_get (.sy 0))
    simp only [RV] at hvq
    refine runX_sound (fromX_run K3) Sq Oq fun e s' a' w' ρ' U' k S' O' jj nn => ?_
    have z := thenC_spec k; clear k; obtain ⟨rfl, k⟩ := z
    simp only [Bool.and_eq_true] at k
    by_cases hl : Uq.J + 1 < 400
    · have A' : At w0 n (tmps (.sy 0)) (base true (.sy 0)) 886 (fun J => J = Uq.J + 1 ∧ J < 400) a' w' := At.of S' O' (nn.trans hNq) (Uq.J + 1) k.1 (fun x y v h hx => by
        unfold nm3 at h
        split at h
        · rename_i c c2
          have h := beqT h
          simp only [RV] at hx ⊢
          rw [jj] at hx
          exact ⟨by rw [hx.1, h]; show Value.int .i64 _ = Value.int .i64 _; congr 2; show Uq.J + (c2 + 1) = Uq.J + 1 + c2; omega, hl⟩
        · cases h) ⟨rfl, hl⟩
      obtain ⟨_, U2, hJ, hv2⟩ := at9 A'
      simp only [RV] at hv2
      obtain ⟨ρa, Ua, q1, q2, q3, q4⟩ := A'
      refine ⟨.inr (.inl ⟨ρa, Ua, q1, ⟨by omega, q2.2⟩, q3, q4⟩), ?_⟩
      simp only [far, hvq.1, hv2.1]
      omega
    · have A' : At w0 n (tmps (.int .i64 400)) (base true (.int .i64 400)) 886 (fun _ => True) a' w' := At.of S' O' (nn.trans hNq) 0 k.2 (fun x y v h hx => by
        unfold nm4 at h
        split at h
        · rename_i c m
          have h := beqT h
          simp only [RV] at hx ⊢
          rw [jj] at hx
          rw [hx.1]
          have : Uq.J = 399 := by omega
          rw [this, h]
          rfl
        · cases h) trivial
      refine ⟨.inr (.inr A'), ?_⟩
      obtain ⟨_, U2, hJ, hv2⟩ := at9 A'
      simp only [RV] at hv2
      simp only [far, hvq.1, hv2]
      omega
  · -- it is over
    refine A.run K4 fun e s' a' w' ρ' U' k S' O' _ nn => ?_
    have z := exitC_spec k; clear k; obtain ⟨rfl, k⟩ := z
    refine wpIn_seq (runX_sound k S' O' fun e s7 a7 w7 ρ7 U7 k7 S7 O7 j7 n7 => ?_)
    have z := thenC_spec k7; clear k7; obtain ⟨rfl, k7⟩ := z
    refine wpIn_seq (wpIn_seq (runX_sound k7 S7 O7 fun e s8 a8 w8 ρ8 U8 k8 S8 O8 j8 n8 => ?_))
    have z := thenC_spec k8; clear k8; obtain ⟨rfl, k8⟩ := z
    have A8 : At w0 n (tmps2 0) seen 891 (fun _ => True) a8 w8 := At.of S8 O8 (by rw [n8, n7, nn]) 0 k8 nm0_less trivial
    -- the second loop
    refine wpIn_block (wpIn_loop (fun a w => ∃ i, i ≤ 5 ∧ At w0 n (tmps2 i) seen 891 (fun _ => True) a w) (fun a _ => far 11 a) ⟨0, by omega, A8⟩ ?_)
    rintro a9 w9 ⟨i, hi, A9⟩
    have at11 : ∀ {i : Nat} {a : Act} {w : World}, At w0 n (tmps2 i) seen 891 (fun _ => True) a w → a.tmps.getD 11 undef = .int .i64 (.ofNat i) := by
      rintro i a w ⟨ρ, U, _, hJ, S, _⟩
      have := S.tr 11 _ (tmps2_get i)
      simpa only [RV] using this
    have h11 := at11 A9
    obtain ⟨ρ9, U9, hN9, _, S9, O9⟩ := A9
    have k9 := List.all_eq_true.1 (List.all_eq_true.1 K7 i (List.mem_range.2 (by omega))) n (List.mem_range.2 hn)
    have k9 := forceT_eq _ _ (forceT_eq _ _ k9)
    have hun := S9.tr 1 _ (tmps2_get1 i)
    simp only [RV] at hun
    have S9' : SR ρ9 U9 50 [] ⟨(mkT (tmps2 i)).set 1 (.int .u8 (.ofNat n)), mkT seen, 891⟩ a9 w9 := by
      refine ⟨fun t x hx => ?_, S9.rel, S9.bound, S9.size, S9.defers⟩
      rw [Tr.get_set] at hx
      split at hx
      · rename_i e
        subst e
        cases hx
        simp only [RV]
        rw [hun, hN9]
        rfl
      · exact S9.tr t x hx
    have unn : ∀ {ρ : Nat → Loc} {H H2 : Heap} {U : Gh} {w : World} {m : Nat → Bool} {J2 : Nat}, U.N = (n : Int) → ∀ x y v, nmn n x y = true → RV ρ H U w x v → RV ρ H2 (U.only m J2) w y v := by
      intro ρ H H2 U w m J2 hU x y v h hx
      unfold nmn at h
      split at h
      · rename_i m'
        have h := beqT h
        simp only [RV] at hx ⊢
        rw [hx, h]
        show Value.int .u8 _ = Value.int .u8 U.N
        rw [hU]
        rfl
      · cases h
    refine wpIn_seq (runX_sound k9 S9' O9 fun e s10 a10 w10 ρ10 U10 k10 S10 O10 j10 n10 => ?_)
    cases hlt : Nat.ble (i + 1) (1 + n % 5) with
    | true =>
      rw [hlt, cond_true] at k10
      have z := thenC_spec k10; clear k10; obtain ⟨rfl, k10⟩ := z
      have hle := bleT hlt
      have hi5 : i < 5 := by have := Nat.mod_lt n (show 0 < 5 by omega); omega
      have A10 : At w0 n (tmps2 i) seen 891 (fun _ => True) a10 w10 := At.of S10 O10 (by rw [n10, hN9]) 0 k10 (unn (by rw [n10, hN9])) trivial
      have k11 := List.all_eq_true.1 K5 i (List.mem_range.2 hi5)
      refine wpIn_seq (A10.run k11 fun e s12 a12 w12 ρ12 U12 k12 S12 O12 _ n12 => ?_)
      have z := thenC_spec k12; clear k12; obtain ⟨rfl, k12⟩ := z
      refine runX_sound k12 S12 O12 fun e s13 a13 w13 ρ13 U13 k13 S13 O13 j13 n13 => ?_
      have z := thenC_spec k13; clear k13; obtain ⟨rfl, k13⟩ := z
      have A13 : At w0 n (tmps2 (i + 1)) seen 891 (fun _ => True) a13 w13 := At.of S13 O13 (by rw [n13, n12]) 0 k13 nm0_less trivial
      refine ⟨⟨i + 1, by omega, A13⟩, ?_⟩
      have := at11 A13
      simp only [far, h11, this]
      have e1 : (Int.ofNat (i + 1)) = (i : Int) + 1 := rfl
      have e2 : (Int.ofNat i) = (i : Int) := rfl
      rw [e1, e2]
      omega
    | false =>
      rw [hlt, cond_false] at k10
      have z := exitC_spec k10; clear k10; obtain ⟨rfl, k10⟩ := z
      have A10 : At w0 n (tmps2 i) seen 891 (fun _ => True) a10 w10 := At.of S10 O10 (by rw [n10, hN9]) 0 k10 (unn (by rw [n10, hN9])) trivial
      have k11 := List.all_eq_true.1 K6 i (List.mem_range.2 (by omega))
      refine A10.run k11 fun e s12 a12 w12 ρ12 U12 k12 S12 O12 _ n12 => ?_
      have z := retC_spec k12; clear k12; obtain ⟨rfl, k12⟩ := z
      have hb : s12.T.get 6 = some (.bool true) := by
        split at k12
        · rename_i b hb
          rw [hb, k12]
        · cases k12
      obtain ⟨us, r1, r2⟩ := results_sound (P := P) E_ok S12.tr S12.rel (fn := Tryz.f3) (xs := [.bool true]) (by
        have : Tryz.f3.results.toList = [.tmp 6] := by kernel_rfl
        rw [this]
        simp only [resultsA, resultA, getT, hb])
      simp only [RVs, RV] at r2
      obtain ⟨v, r, rfl, rfl, rfl⟩ := r2
      refine ⟨S12.defers, _, r1, hR _ ⟨O12.os, O12.tape, O12.output, O12.size, fun b hb => (O12.block b hb).1⟩⟩
end Go.Cl.Wf
