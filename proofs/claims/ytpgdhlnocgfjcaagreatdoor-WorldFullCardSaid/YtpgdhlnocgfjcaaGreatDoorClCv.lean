/- Drawn regions: the stages are sound. -/
import Derived.Test.YtpgdhlnocgfjcaaGreatDoorClCu
set_option linter.unusedSimpArgs false
set_option linter.unusedVariables false
set_option linter.unusedSectionVars false
namespace Go.Cl

theorem sameI_eq {a b : Int} (h : sameI a b = true) : a = b := by
  cases a <;> cases b <;> simp only [sameI, Bool.false_eq_true] at h
  · rw [beqT h]
  · rw [beqT h]
theorem sameB_eq {a b : Bool} (h : sameB a b = true) : a = b := by
  cases a <;> cases b <;> simp [sameB] at h <;> rfl
theorem sameL_eq : ∀ {x y : List UInt8}, sameL x y = true → x = y
  | [], [], _ => rfl
  | [], _ :: _, h => by simp [sameL] at h
  | _ :: _, [], h => by simp [sameL] at h
  | a :: x, b :: y, h => by
    simp only [sameL, Bool.and_eq_true] at h
    have h1 : a = b := by
      have := beqT h.1
      exact UInt8.toNat_inj.1 this
    rw [h1, sameL_eq h.2]
mutual
theorem sameV_eq : ∀ {x y : AV}, sameV x y = true → x = y
  | .bool a, y, h => by cases y <;> simp only [sameV, Bool.false_eq_true] at h; rw [sameB_eq h]
  | .int k a, y, h => by
    cases y <;> simp only [sameV, Bool.false_eq_true, Bool.and_eq_true] at h
    rw [sameKind_eq.1 h.1, sameI_eq h.2]
  | .str a, y, h => by cases y <;> simp only [sameV, Bool.false_eq_true] at h; rw [sameL_eq h]
  | .nilp, y, h => by cases y <;> simp only [sameV, Bool.false_eq_true] at h; rfl
  | .nils, y, h => by cases y <;> simp only [sameV, Bool.false_eq_true] at h; rfl
  | .nilm, y, h => by cases y <;> simp only [sameV, Bool.false_eq_true] at h; rfl
  | .nilf, y, h => by cases y <;> simp only [sameV, Bool.false_eq_true] at h; rfl
  | .nili, y, h => by cases y <;> simp only [sameV, Bool.false_eq_true] at h; rfl
  | .e0, y, h => by cases y <;> simp only [sameV, Bool.false_eq_true] at h; rfl
  | .ptr i r o, y, h => by
    cases y <;> simp only [sameV, Bool.false_eq_true, Bool.and_eq_true] at h
    rw [beqT h.1.1, beqT h.1.2, beqT h.2]
  | .sl i r o, y, h => by
    cases y <;> simp only [sameV, Bool.false_eq_true, Bool.and_eq_true] at h
    rw [beqT h.1.1, beqT h.1.2, beqT h.2]
  | .map i, y, h => by cases y <;> simp only [sameV, Bool.false_eq_true] at h; rw [beqT h]
  | .it i, y, h => by cases y <;> simp only [sameV, Bool.false_eq_true] at h
  | .fs sz rows, y, h => by
    cases y <;> simp only [sameV, Bool.false_eq_true, Bool.and_eq_true] at h
    rw [beqT h.1, sameRs_eq h.2]
  | .fp row o, y, h => by
    cases y <;> simp only [sameV, Bool.false_eq_true, Bool.and_eq_true] at h
    rw [beqT h.1, sameVs_eq h.2]
  | .fn f fs cs, y, h => by
    cases y <;> simp only [sameV, Bool.false_eq_true, Bool.and_eq_true] at h
    rw [beqT h.1.1, sameVs_eq h.1.2, sameVs_eq h.2]
  | .ifc t v, y, h => by
    cases y <;> simp only [sameV, Bool.false_eq_true, Bool.and_eq_true] at h
    rw [beqT h.1, sameV_eq h.2]
  | .agg cs, y, h => by cases y <;> simp only [sameV, Bool.false_eq_true] at h; rw [sameVs_eq h]
  | .tup cs, y, h => by cases y <;> simp only [sameV, Bool.false_eq_true] at h; rw [sameVs_eq h]
  | .any, y, h => by cases y <;> simp only [sameV, Bool.false_eq_true] at h; rfl
  | .sy a, y, h => by cases y <;> simp only [sameV, Bool.false_eq_true] at h; rw [beqT h]
  | .op, y, h => by cases y <;> simp only [sameV, Bool.false_eq_true] at h; rfl
  | .un, y, h => by cases y <;> simp only [sameV, Bool.false_eq_true] at h; rfl
theorem sameVs_eq : ∀ {x y : List AV}, sameVs x y = true → x = y
  | [], y, h => by cases y <;> simp only [sameVs, Bool.false_eq_true] at h; rfl
  | a :: x, y, h => by
    cases y with
    | nil => simp [sameVs] at h
    | cons b y =>
      simp only [sameVs, Bool.and_eq_true] at h
      rw [sameV_eq h.1, sameVs_eq h.2]
theorem sameRs_eq : ∀ {x y : List (List AV)}, sameRs x y = true → x = y
  | [], y, h => by cases y <;> simp only [sameRs, Bool.false_eq_true] at h; rfl
  | a :: x, y, h => by
    cases y with
    | nil => simp [sameRs] at h
    | cons b y =>
      simp only [sameRs, Bool.and_eq_true] at h
      rw [sameVs_eq h.1, sameRs_eq h.2]
end
theorem sameO_eq {a b : Option AO} (h : sameO a b = true) : a = b := by
  unfold sameO at h
  split at h
  · simp only [Bool.and_eq_true] at h
    rw [beqT h.1, sameRs_eq h.2]
  · rfl
  · cases h

/-! ### A heap is what one gets from it -/
section
variable {ρ : Nat → Loc} {H H2 : Heap} {U : Gh} {w : World}
theorem Ext0.ofGet (h : ∀ i, U i → H2.get i = H.get i) : Ext0 ρ H U w ρ H2 U w := by
  refine ⟨fun _ h => h, fun i hi o' ho => ⟨o', (h i hi) ▸ ho, rfl, fun sz rs' e => ⟨⟨rs', e⟩, rfl⟩, fun es e => ⟨es, e⟩⟩, fun b hb hm => ⟨rfl, ?_⟩, Nat.le_refl _, rfl, rfl, rfl, rfl, rfl⟩
  rintro (⟨i, o, hi, ho, e⟩ | hp)
  · exact hm (.inl ⟨i, o, hi, (h i hi) ▸ ho, e⟩)
  · exact hm (.inr hp)
theorem Ext.ofGet (h : ∀ i, U i → H2.get i = H.get i) : Ext ρ H U w ρ H2 U w := ⟨Ext0.ofGet h, fun b hb => ⟨rfl, hb⟩⟩
theorem Rel.ofGet (h : ∀ i, U i → H2.get i = H.get i) (R : Rel ρ H U w) : Rel ρ H2 U w := by
  refine ⟨fun i o hi ho => ?_, fun i j oi oj hi hj hoi hoj e => R.inj i j oi oj hi hj ((h i hi) ▸ hoi) ((h j hj) ▸ hoj) e, fun b hb => ⟨(R.priv b hb).1, fun i o hi ho => (R.priv b hb).2 i o hi ((h i hi) ▸ ho)⟩⟩
  obtain ⟨k1, k2, k3⟩ := R.obj i o hi ((h i hi) ▸ ho)
  exact ⟨k1, k2, ORel.mono (Ext0.ofGet h) rfl o k3⟩
end

/-! ### Masks -/
theorem bit_eq (C i : Nat) : bit C i = C.testBit i := by
  unfold bit
  have h : Nat.land (Nat.shiftRight C i) 1 = (C >>> i) % 2 := Nat.and_one_is_mod _
  rw [h]
  have h2 : C.testBit i = ((C >>> i) % 2 == 1) := by
    rw [Nat.testBit, Nat.and_comm, Nat.and_one_is_mod]
    rcases Nat.mod_two_eq_zero_or_one (C >>> i) with h | h <;> simp [h]
  rw [h2]
  rcases Nat.mod_two_eq_zero_or_one (C >>> i) with h | h <;> rw [h] <;> rfl
theorem bit_plus (C i j : Nat) : bit (plus C i) j = true ↔ j = i ∨ bit C j = true := by
  rw [bit_eq, bit_eq]
  have h : plus C i = C ||| (1 <<< i) := rfl
  rw [h, Nat.testBit_or, Bool.or_eq_true, Nat.testBit_shiftLeft]
  constructor
  · rintro (h | h)
    · exact .inr h
    · left
      simp only [Bool.and_eq_true, decide_eq_true_eq] at h
      have : Nat.testBit 1 (j - i) = true → j - i = 0 := by
        intro h
        rcases Nat.eq_zero_or_pos (j - i) with h0 | h0
        · exact h0
        · exfalso
          have := Nat.testBit_lt_two_pow (x := 1) (i := j - i) (Nat.one_lt_two_pow (by omega))
          rw [this] at h
          cases h
      have := this h.2
      omega
  · rintro (h | h)
    · subst h
      right
      simp
    · exact .inl h
theorem within_iff {a b : Nat} : within a b = true ↔ ∀ i, bit a i = true → bit b i = true := by
  unfold within
  constructor
  · intro h i hi
    have h := beqT h
    rw [bit_eq] at hi ⊢
    have h' : a &&& b = a := h
    have := congrArg (fun n => Nat.testBit n i) h'
    simp only [Nat.testBit_and, hi, Bool.true_and] at this
    exact this
  · intro h
    have : a &&& b = a := by
      apply Nat.eq_of_testBit_eq
      intro i
      rw [Nat.testBit_and]
      cases hi : a.testBit i with
      | false => rfl
      | true =>
        have := h i (by rw [bit_eq]; exact hi)
        rw [bit_eq] at this
        rw [this]; rfl
    show Nat.beq (a &&& b) a = true
    rw [this]
    exact beq_true a
theorem bit_zero (i : Nat) : bit 0 i = false := by rw [bit_eq]; simp
theorem bit_lor (a b j : Nat) : bit (Nat.lor a b) j = true ↔ bit a j = true ∨ bit b j = true := by
  rw [bit_eq, bit_eq, bit_eq]
  have h : Nat.lor a b = a ||| b := rfl
  rw [h, Nat.testBit_or, Bool.or_eq_true]
theorem bit_one (i j : Nat) : bit (Nat.shiftLeft 1 i) j = true ↔ j = i := by
  have := bit_plus 0 i j
  rw [bit_zero] at this
  have h : plus 0 i = Nat.shiftLeft 1 i := by
    show 0 ||| (1 <<< i) = 1 <<< i
    simp
  rw [h] at this
  simpa using this
theorem edgesM_iff {es : List Edge} {j : Nat} : bit (edgesM es) j = true ↔ ∃ e ∈ es, Region.binds .any e = true ∧ e.on = j := by
  induction es with
  | nil => simp [edgesM, bit_zero]
  | cons e es ih =>
    unfold edgesM
    cases hb : Region.binds .any e with
    | false =>
      rw [cond_false, ih]
      constructor
      · rintro ⟨e', h1, h2⟩; exact ⟨e', by simp [h1], h2⟩
      · rintro ⟨e', h1, h2, h3⟩
        rcases List.mem_cons.1 h1 with rfl | h1
        · rw [hb] at h2; cases h2
        · exact ⟨e', h1, h2, h3⟩
    | true =>
      rw [cond_true, bit_lor, bit_one, ih]
      constructor
      · rintro (h | ⟨e', h1, h2⟩)
        · exact ⟨e, by simp, hb, h.symm⟩
        · exact ⟨e', by simp [h1], h2⟩
      · rintro ⟨e', h1, h2, h3⟩
        rcases List.mem_cons.1 h1 with rfl | h1
        · exact .inl h3.symm
        · exact .inr ⟨e', h1, h2, h3⟩
end Go.Cl
