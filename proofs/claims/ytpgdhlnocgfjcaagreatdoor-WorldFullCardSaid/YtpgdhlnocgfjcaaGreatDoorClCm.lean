/- Each operation is sound: numbers, comparisons, conversions. -/
import Derived.Test.YtpgdhlnocgfjcaaGreatDoorClCl
import Derived.Laws.BytesString
import Derived.Laws.Strings
set_option linter.unusedSimpArgs false
set_option linter.unusedVariables false
set_option linter.unusedSectionVars false
namespace Go.Cl

theorem wrap_i64 (n : Int) (h : -9223372036854775808 ≤ n) (h2 : n ≤ 9223372036854775807) : IntKind.i64.wrap n = n := by
  have e : IntKind.i64.wrap n = if decide (n % 18446744073709551616 ≥ 9223372036854775808) = true then n % 18446744073709551616 - 18446744073709551616 else n % 18446744073709551616 := by
    unfold IntKind.wrap
    rfl
  rw [e]
  by_cases hb : n % 18446744073709551616 ≥ 9223372036854775808
  · rw [if_pos (by simpa using hb)]; omega
  · rw [if_neg (by simpa using hb)]; omega
theorem wrap_un (k : IntKind) (hk : k.signed = false) (n : Int) : k.wrap n = n % (2 ^ k.bits : Int) := by
  unfold IntKind.wrap
  rw [hk]
  rfl

theorem wrapA_eq (k : IntKind) (n : Int) : wrapA k n = k.wrap n := by
  unfold wrapA
  split
  · rename_i m
    cases hb : Nat.ble m 9223372036854775807 with
    | false => rw [cond_false]
    | true =>
      have := bleT hb
      rw [cond_true, wrap_i64 _ (by have : (0 : Int) ≤ Int.ofNat m := Int.natCast_nonneg m; omega) (by simp only [Int.ofNat_eq_natCast]; omega)]
  · rename_i m
    cases hb : Nat.ble m 9223372036854775807 with
    | false => rw [cond_false]
    | true =>
      have := bleT hb
      rw [cond_true, wrap_i64 _ (by omega) (by omega)]
  · rename_i m
    rw [wrap_un _ rfl]
    show ((m % 256 : Nat) : Int) = (m : Int) % (256 : Int)
    omega
  · rename_i m
    rw [wrap_un _ rfl]
    show ((m % 4294967296 : Nat) : Int) = (m : Int) % (4294967296 : Int)
    omega
  · rename_i m
    rw [wrap_un _ rfl]
    show ((m % 18446744073709551616 : Nat) : Int) = (m : Int) % (18446744073709551616 : Int)
    omega
  · rfl

section
variable {P : Program} {E : Env} (hE : E.Ok P) {ρ : Nat → Loc} {H : Heap} {U : Gh} {w : World}

theorem ibin_sound {op : BinOp} {k : IntKind} {a b : Int} {y : AV} (hs : op ≠ .shl) (hs2 : op ≠ .shr) (h : ibin op k a b = some y) (t : TypeId) : ∃ v, (Go.binOp op t (.int k a) (.int k b)).run P w = .ok v w ∧ RV ρ H U w y v := by
  cases op <;> simp only [ibin, ne_eq, not_true_eq_false, not_false_eq_true, reduceCtorEq] at h hs hs2
  case quo =>
    cases hb : (b == 0) with
    | true => rw [hb, cond_true] at h; cases h
    | false =>
      rw [hb, cond_false] at h; cases h
      have hb' : b ≠ 0 := by simpa using hb
      exact ⟨_, by simp [Go.binOp, Op.intDiv, hb']; rfl, by simp only [RV, wrapA_eq]⟩
  case rem =>
    cases hb : (b == 0) with
    | true => rw [hb, cond_true] at h; cases h
    | false =>
      rw [hb, cond_false] at h; cases h
      have hb' : b ≠ 0 := by simpa using hb
      exact ⟨_, by simp [Go.binOp, Op.intDiv, hb']; rfl, by simp only [RV]⟩
  all_goals first
    | (cases h; exact ⟨_, by simp [Go.binOp, Op.intArith]; rfl, by simp only [RV, wrapA_eq]⟩)
    | (simp only [bitsA, Option.some.injEq] at h; subst h; exact ⟨_, by simp [Go.binOp, Op.intBits]; rfl, by simp only [RV]⟩)
    | (cases h; exact ⟨_, by simp [Go.binOp, Op.intCmp]; rfl, by simp only [RV]⟩)

theorem shift_sound {op : BinOp} {k k' : IntKind} {a b : Int} {y : AV} (hs : op = .shl ∨ op = .shr) (h : ibin op k a b = some y) (t : TypeId) : ∃ v, (Go.binOp op t (.int k a) (.int k' b)).run P w = .ok v w ∧ RV ρ H U w y v := by
  rcases hs with rfl | rfl <;> simp only [ibin] at h
  all_goals
    cases hb : decide (b < 0) with
    | true => rw [hb, cond_true] at h; cases h
    | false =>
      rw [hb, cond_false] at h; cases h
      have hb' : ¬ (b < 0) := by simpa using hb
      exact ⟨_, by simp [Go.binOp, Op.shift, hb']; rfl, by simp only [RV, wrapA_eq]⟩

theorem strOp_sound {op : BinOp} {a b : List UInt8} {y : AV} (h : strOp op a b = some y) (t : TypeId) : ∃ v, (Go.binOp op t (.string ⟨a.toArray⟩) (.string ⟨b.toArray⟩)).run P w = .ok v w ∧ RV ρ H U w y v := by
  have ha : (⟨a.toArray⟩ : ByteArray).toList = a := by rw [ByteArray.toList_eq]
  have hb : (⟨b.toArray⟩ : ByteArray).toList = b := by rw [ByteArray.toList_eq]
  have hbin : Go.binOp op t (.string ⟨a.toArray⟩) (.string ⟨b.toArray⟩) = Op.stringOp op ⟨a.toArray⟩ ⟨b.toArray⟩ := by cases op <;> rfl
  rw [hbin]
  cases op <;> simp only [strOp] at h
  case add =>
    cases hc : Nat.ble (a.length + b.length) 9223372036854775807 with
    | false => rw [hc, cond_false] at h; cases h
    | true =>
      rw [hc, cond_true] at h; cases h
      have hc := bleT hc
      have h' : ¬ ((((⟨a.toArray⟩ : ByteArray).size + (⟨b.toArray⟩ : ByteArray).size : Nat) : Int) > IntKind.i64.max) := by
        simp [bsize, IntKind.max, IntKind.signed, IntKind.bits]
        omega
      refine ⟨.string ⟨(a ++ b).toArray⟩, ?_, by simp only [RV]⟩
      unfold Op.stringOp
      dsimp only
      rw [if_neg h', Sem.run_pure]
      congr 2
  all_goals first
    | (cases h; done)
    | (cases h; exact ⟨_, by simp only [Op.stringOp, ha, hb]; rfl, by simp only [RV]⟩)

theorem equal_of {t : TypeId} {x y : Value} {b : Bool} (h : ∀ d, (Op.equalIn (d + 1) t x y).run P w = .ok b w) : (Op.equal t x y).run P w = .ok b w := h 9999

/-- A literal nil of a type's kind. -/
theorem isNilLit_val {td : TD} {y : AV} {v : Value} (h : isNilLit td y = true) (hv : RV ρ H U w y v) : (∃ e, td = .ptr e ∧ v = .pointer none) ∨ (∃ e, td = .sl e ∧ v = .slice none 0 0) ∨ (∃ k e, td = .map k e ∧ v = .map none) ∨ (td = .fn ∧ v = .nilFunc) := by
  cases td <;> cases y <;> simp only [isNilLit, Bool.false_eq_true] at h
  all_goals simp only [RV] at hv
  case ptr.nilp => exact .inl ⟨_, rfl, hv⟩
  case sl.nils => exact .inr (.inl ⟨_, rfl, hv⟩)
  case map.nilm => exact .inr (.inr (.inl ⟨_, _, rfl, hv⟩))
  case fn.nilf => exact .inr (.inr (.inr ⟨rfl, hv⟩))

theorem eqB_some {op : BinOp} {b : Bool} {y : AV} (h : eqB op b = some y) : (op = .eql ∧ y = .bool b) ∨ (op = .neq ∧ y = .bool (!b)) := by
  cases op <;> simp only [eqB] at h <;> cases h
  · exact .inl ⟨rfl, rfl⟩
  · exact .inr ⟨rfl, rfl⟩

theorem nil_eq {t : Nat} {ti : TI} (ht : tiOf P t = some ti) {x y : AV} {b : Bool} (h1 : isNilLit ti.td y = true) (h2 : isNil ti.td x = some b) {vx vy : Value} (hx : RV ρ H U w x vx) (hy : RV ρ H U w y vy) :
    (Op.equal t vx vy).run P w = .ok b w ∧ (Op.equal t vy vx).run P w = .ok b w := by
  rcases isNilLit_val h1 hy with ⟨e, he, rfl⟩ | ⟨e, he, rfl⟩ | ⟨k, e, he, rfl⟩ | ⟨he, rfl⟩
  · have hul := und_ptr ht he
    rw [he] at h2
    cases x <;> simp only [isNil, Option.some.injEq, reduceCtorEq] at h2 <;> subst h2 <;> simp only [RV] at hx
    · subst hx; exact ⟨equal_of fun d => by simp [Op.equalIn, run_underlying hul], equal_of fun d => by simp [Op.equalIn, run_underlying hul]⟩
    · obtain ⟨_, a, rfl, _⟩ := hx; exact ⟨equal_of fun d => by simp [Op.equalIn, run_underlying hul], equal_of fun d => by simp [Op.equalIn, run_underlying hul]⟩
    · obtain ⟨_, b, o', rfl, _⟩ := hx; exact ⟨equal_of fun d => by simp [Op.equalIn, run_underlying hul], equal_of fun d => by simp [Op.equalIn, run_underlying hul]⟩
  · have hul := und_sl ht he
    rw [he] at h2
    cases x <;> simp only [isNil, Option.some.injEq, reduceCtorEq] at h2
    case nils => subst h2; simp only [RV] at hx; subst hx; exact ⟨equal_of fun d => by simp [Op.equalIn, run_underlying hul], equal_of fun d => by simp [Op.equalIn, run_underlying hul]⟩
    case sl => subst h2; simp only [RV] at hx; obtain ⟨_, a, c, rfl, _⟩ := hx; exact ⟨equal_of fun d => by simp [Op.equalIn, run_underlying hul], equal_of fun d => by simp [Op.equalIn, run_underlying hul]⟩
    case fs sz rows =>
      cases rows with
      | nil => simp [isNil] at h2
      | cons row rows =>
        simp only [isNil, Option.some.injEq] at h2
        subst h2
        simp only [RV] at hx
        obtain ⟨_, a, c, rfl, _, hr⟩ := hx
        obtain ⟨b, o, rfl, _⟩ := hr (by simp)
        exact ⟨equal_of fun d => by simp [Op.equalIn, run_underlying hul], equal_of fun d => by simp [Op.equalIn, run_underlying hul]⟩
  · have hul := und_map ht he
    rw [he] at h2
    cases x <;> simp only [isNil, Option.some.injEq, reduceCtorEq] at h2 <;> subst h2 <;> simp only [RV] at hx
    · subst hx; exact ⟨equal_of fun d => by simp [Op.equalIn, run_underlying hul], equal_of fun d => by simp [Op.equalIn, run_underlying hul]⟩
    · obtain ⟨_, b, rfl, _⟩ := hx; exact ⟨equal_of fun d => by simp [Op.equalIn, run_underlying hul], equal_of fun d => by simp [Op.equalIn, run_underlying hul]⟩
  · obtain ⟨a, b, c, hul⟩ := und_fn ht he
    rw [he] at h2
    cases x <;> simp only [isNil, Option.some.injEq, reduceCtorEq] at h2 <;> subst h2 <;> simp only [RV] at hx
    · subst hx; exact ⟨equal_of fun d => by simp [Op.equalIn, run_underlying hul], equal_of fun d => by simp [Op.equalIn, run_underlying hul]⟩
    · obtain ⟨fs, cs, rfl, _⟩ := hx; exact ⟨equal_of fun d => by simp [Op.equalIn, run_underlying hul], equal_of fun d => by simp [Op.equalIn, run_underlying hul]⟩

theorem binOp_eq_of {t : Nat} {x y : Value} {b : Bool} (hx : ∀ k n, x ≠ .int k n) (hf : ∀ k n, x ≠ .float k n) (hc : ∀ k n m, x ≠ .complex k n m) (hs : ∀ s, x ≠ .string s) (he : (Op.equal t x y).run P w = .ok b w) {op : BinOp} (ho : op = .eql ∨ op = .neq) :
    (Go.binOp op t x y).run P w = .ok (.bool (if op = .eql then b else !b)) w := by
  rcases ho with rfl | rfl <;> cases x <;> simp_all [Go.binOp]

theorem nil_kinds {td : TD} {y : AV} {v : Value} (h : isNilLit td y = true) (hv : RV ρ H U w y v) : (∀ k n, v ≠ .int k n) ∧ (∀ k n, v ≠ .float k n) ∧ (∀ k n m, v ≠ .complex k n m) ∧ (∀ s, v ≠ .string s) ∧ (∀ cs, v ≠ .agg cs) ∧ v ≠ .nilIface := by
  rcases isNilLit_val h hv with ⟨e, he, rfl⟩ | ⟨e, he, rfl⟩ | ⟨k, e, he, rfl⟩ | ⟨he, rfl⟩ <;> simp
theorem isNil_kinds {td : TD} {y : AV} {v : Value} {b : Bool} (h : isNil td y = some b) (hv : RV ρ H U w y v) : (∀ k n, v ≠ .int k n) ∧ (∀ k n, v ≠ .float k n) ∧ (∀ k n m, v ≠ .complex k n m) ∧ (∀ s, v ≠ .string s) ∧ (∀ cs, v ≠ .agg cs) ∧ v ≠ .nilIface := by
  cases td <;> cases y <;> simp only [isNil, reduceCtorEq] at h <;> simp only [RV] at hv
  all_goals first
    | (subst hv; simp)
    | (obtain ⟨_, a, rfl, _⟩ := hv; simp)
    | (obtain ⟨_, a, c, rfl, _⟩ := hv; simp)
    | (obtain ⟨a, rfl, _⟩ := hv; simp)

include hE
/-- Two operands of an operation. -/
theorem bin_sound {t : Nat} {ti : TI} (hti : E.ty.get t = some ti) {op : BinOp} {x y z : AV} (h : binA ti.td op x y = some z) (ox oy : Operand) {vx vy : Value} (hx : RV ρ H U w x vx) (hy : RV ρ H U w y vy) :
    ∃ v, (do eqGuard op t ox oy vx vy; Go.binOp op t vx vy : Sem Value).run P w = .ok v w ∧ RV ρ H U w z v := by
  have ht := hE.ty _ _ hti
  have guard : (∀ cs, vx ≠ .agg cs) → vx ≠ .nilIface → (eqGuard op t ox oy vx vy).run P w = .ok () w := by
    intro h1 h2
    cases op <;> cases vx <;> simp_all [eqGuard]
  unfold binA at h
  split at h
  · simp only [RV] at hx hy
    subst hx; subst hy
    rename_i k a k' b
    suffices hh : ∃ v, (Go.binOp op t (.int k a) (.int k' b)).run P w = .ok v w ∧ RV ρ H U w z v by
      obtain ⟨v, h1, h2⟩ := hh
      exact ⟨v, by rw [Sem.run_bind, guard (by simp) (by simp)]; simpa using h1, h2⟩
    split at h
    · exact shift_sound (.inl rfl) h t
    · exact shift_sound (.inr rfl) h t
    · rename_i h1 h2
      cases hk : sameKind k k' with
      | false => rw [hk, cond_false] at h; cases h
      | true =>
        rw [hk, cond_true] at h
        have := sameKind_eq.1 hk
        subst this
        exact ibin_sound h1 h2 h t
  · simp only [RV] at hx hy
    subst hx; subst hy
    rename_i a b
    split at h
    · rename_i htd
      have hul := und_bool ht htd
      have he : (Op.equal t (.bool a) (.bool b)).run P w = .ok (a == b) w := equal_of fun d => by simp [Op.equalIn, run_underlying hul]
      rcases eqB_some h with ⟨rfl, rfl⟩ | ⟨rfl, rfl⟩
      · refine ⟨.bool (a == b), ?_, by simp only [RV]⟩
        rw [Sem.run_bind, guard (by simp) (by simp)]
        simp [binOp_eq_of (by simp) (by simp) (by simp) (by simp) he (.inl rfl)]
      · refine ⟨.bool (!(a == b)), ?_, by simp only [RV]⟩
        rw [Sem.run_bind, guard (by simp) (by simp)]
        simp [binOp_eq_of (by simp) (by simp) (by simp) (by simp) he (.inr rfl)]
    · cases h
  · simp only [RV] at hx hy
    subst hx; subst hy
    obtain ⟨v, h1, h2⟩ := strOp_sound (P := P) (ρ := ρ) (H := H) (U := U) (w := w) h t
    exact ⟨v, by rw [Sem.run_bind, guard (by simp) (by simp)]; simpa using h1, h2⟩
  · rename_i c n
    simp only [RV] at hx hy
    obtain ⟨rfl, hJ⟩ := hx
    subst hy
    have fin : ∀ y, op ≠ .shl → op ≠ .shr → ibin op .i64 ((U.J + c : Nat) : Int) (.ofNat n) = some y → (∀ v, RV ρ H U w y v → RV ρ H U w z v) → ∃ v, (do eqGuard op t ox oy (.int .i64 ((U.J + c : Nat) : Int)) (.int .i64 (.ofNat n)); Go.binOp op t (.int .i64 ((U.J + c : Nat) : Int)) (.int .i64 (.ofNat n)) : Sem Value).run P w = .ok v w ∧ RV ρ H U w z v := by
      intro y h1 h2 h3 h4
      obtain ⟨v, h5, h6⟩ := ibin_sound (P := P) (ρ := ρ) (H := H) (U := U) (w := w) h1 h2 h3 t
      exact ⟨v, by rw [Sem.run_bind, guard (by simp) (by simp)]; simpa using h5, h4 v h6⟩
    split at h
    · refine fin _ (by simp) (by simp) rfl fun v hv => ?_
      simp only [RV] at hv
      subst hv
      cases hb : Nat.ble (c + 400) n with
      | true =>
        rw [hb, cond_true] at h
        cases h
        have := Nat.le_of_ble_eq_true hb
        simp only [RV, Value.bool.injEq, decide_eq_true_eq]
        exact Int.ofNat_lt.2 (by omega)
      | false =>
        rw [hb, cond_false] at h
        cases hb2 : Nat.ble n c with
        | false => rw [hb2, cond_false] at h; cases h
        | true =>
          rw [hb2, cond_true] at h
          cases h
          have := Nat.le_of_ble_eq_true hb2
          simp only [RV, Value.bool.injEq, decide_eq_false_iff_not]
          exact fun h => by have := Int.ofNat_lt.1 h; omega
    · refine fin _ (by simp) (by simp) rfl fun v hv => ?_
      simp only [RV] at hv
      subst hv
      cases hb : Nat.ble (c + 400) n with
      | true =>
        rw [hb, cond_true] at h
        cases h
        have := Nat.le_of_ble_eq_true hb
        simp only [RV, Value.bool.injEq, decide_eq_false_iff_not]
        exact fun h => by have : n ≤ U.J + c := Int.ofNat_le.1 h; omega
      | false =>
        rw [hb, cond_false] at h
        cases hb2 : Nat.ble n c with
        | false => rw [hb2, cond_false] at h; cases h
        | true =>
          rw [hb2, cond_true] at h
          cases h
          have := Nat.le_of_ble_eq_true hb2
          simp only [RV, Value.bool.injEq, decide_eq_true_eq]
          exact Int.ofNat_le.2 (show n ≤ U.J + c by omega)
    · rw [Bool.cond_eq_ite] at h
      split at h <;> cases h
      rename_i hb
      have := Nat.le_of_ble_eq_true hb
      refine fin _ (by simp) (by simp) rfl fun v hv => ?_
      simp only [RV] at hv ⊢
      subst hv
      refine ⟨?_, hJ⟩
      have e : ((U.J + c : Nat) : Int) + Int.ofNat n = Int.ofNat (U.J + (c + n)) := by
        show ((U.J + c : Nat) : Int) + (n : Int) = ((U.J + (c + n) : Nat) : Int)
        push_cast
        omega
      rw [e]
      simp only [wrapA, Nat.ble_eq_true_of_le (show U.J + (c + n) ≤ 9223372036854775807 by omega), cond_true]
      rfl
    · cases h
  · cases hn : isNilLit ti.td y with
    | true =>
      rw [hn, cond_true] at h
      cases hi : isNil ti.td x with
      | none => simp [hi] at h
      | some b =>
        simp only [hi, Option.bind_some] at h
        obtain ⟨e1, _⟩ := nil_eq ht hn hi hx hy
        obtain ⟨k1, k2, k3, k4, k5, k6⟩ := isNil_kinds hi hx
        rcases eqB_some h with ⟨rfl, rfl⟩ | ⟨rfl, rfl⟩
        · exact ⟨.bool b, by rw [Sem.run_bind, guard k5 k6]; simp [binOp_eq_of k1 k2 k3 k4 e1 (.inl rfl)], by simp only [RV]⟩
        · exact ⟨.bool (!b), by rw [Sem.run_bind, guard k5 k6]; simp [binOp_eq_of k1 k2 k3 k4 e1 (.inr rfl)], by simp only [RV]⟩
    | false =>
      rw [hn, cond_false] at h
      cases hm : isNilLit ti.td x with
      | false => rw [hm, cond_false] at h; cases h
      | true =>
        rw [hm, cond_true] at h
        cases hi : isNil ti.td y with
        | none => simp [hi] at h
        | some b =>
          simp only [hi, Option.bind_some] at h
          obtain ⟨_, e1⟩ := nil_eq ht hm hi hy hx
          obtain ⟨k1, k2, k3, k4, k5, k6⟩ := nil_kinds hm hx
          rcases eqB_some h with ⟨rfl, rfl⟩ | ⟨rfl, rfl⟩
          · exact ⟨.bool b, by rw [Sem.run_bind, guard k5 k6]; simp [binOp_eq_of k1 k2 k3 k4 e1 (.inl rfl)], by simp only [RV]⟩
          · exact ⟨.bool (!b), by rw [Sem.run_bind, guard k5 k6]; simp [binOp_eq_of k1 k2 k3 k4 e1 (.inr rfl)], by simp only [RV]⟩
end
end Go.Cl
