/- The fast machine says what the abstract machine says. -/
import Derived.Test.YtpgdhlnocgfjcaaGreatDoorClEa
set_option linter.unusedSimpArgs false
set_option linter.unusedVariables false
set_option linter.unusedSectionVars false
namespace Go.Cl

theorem gp_spec {α : Type} : ∀ (n k : Nat) (T : Tr α) (c : Option α → Bool), gp (paOf n k) T c = true → c (T.get k) = true
  | 0, k, T, c, h => by simp [paOf, gp] at h
  | n + 1, k, T, c, h => by
    unfold paOf at h
    by_cases hk : k = 0
    · subst hk
      simp only [beq_true, cond_true, gp] at h
      cases T with
      | lf => simpa [Tr.get] using h
      | nd v l r => simpa [Tr.get, beq_true] using h
      | ov _ _ _ => simp at h
    · rw [beq_false hk, cond_false] at h
      by_cases hm : (k - 1) % 2 = 0
      · have hm' : Nat.beq (Nat.mod (Nat.sub k 1) 2) 0 = true := by show Nat.beq ((k - 1) % 2) 0 = true; rw [hm]; rfl
        rw [hm', cond_true] at h
        simp only [gp] at h
        cases T with
        | lf => simpa [Tr.get] using h
        | nd v l r =>
          have := gp_spec n ((k - 1) / 2) l c h
          simpa [Tr.get, beq_false hk, hm, beq_true] using this
        | ov _ _ _ => simp at h
      · have hm' : Nat.beq (Nat.mod (Nat.sub k 1) 2) 0 = false := beq_false hm
        rw [hm', cond_false] at h
        simp only [gp] at h
        cases T with
        | lf => simpa [Tr.get] using h
        | nd v l r =>
          have := gp_spec n ((k - 1) / 2) r c h
          simpa [Tr.get, beq_false hk, beq_false hm] using this
        | ov _ _ _ => simp at h
theorem sp_spec0 {α : Type} (v : Option α) : ∀ (n k : Nat) (T : Tr α) (c : Tr α → Bool), sp v (paOf n k) T c = true → c (Tr.put v n T k) = true
  | 0, k, T, c, h => by simp [paOf, sp] at h
  | n + 1, k, T, c, h => by
    unfold paOf at h
    by_cases hk : k = 0
    · subst hk
      simp only [beq_true, cond_true, sp] at h
      cases T with
      | lf => simpa [Tr.put, beq_true] using h
      | nd v l r => simpa [Tr.put, beq_true] using h
      | ov _ _ _ => simp at h
    · rw [beq_false hk, cond_false] at h
      by_cases hm : (k - 1) % 2 = 0
      · have hm' : Nat.beq (Nat.mod (Nat.sub k 1) 2) 0 = true := by show Nat.beq ((k - 1) % 2) 0 = true; rw [hm]; rfl
        rw [hm', cond_true] at h
        simp only [sp] at h
        cases T with
        | lf =>
          have := sp_spec0 v n ((k - 1) / 2) .lf _ h
          simpa [Tr.put, beq_false hk, hm, beq_true] using this
        | nd u l r =>
          have := sp_spec0 v n ((k - 1) / 2) l _ h
          simpa [Tr.put, beq_false hk, hm, beq_true] using this
        | ov _ _ _ => simp at h
      · have hm' : Nat.beq (Nat.mod (Nat.sub k 1) 2) 0 = false := beq_false hm
        rw [hm', cond_false] at h
        simp only [sp] at h
        cases T with
        | lf =>
          have := sp_spec0 v n ((k - 1) / 2) .lf _ h
          simpa [Tr.put, beq_false hk, beq_false hm] using this
        | nd u l r =>
          have := sp_spec0 v n ((k - 1) / 2) r _ h
          simpa [Tr.put, beq_false hk, beq_false hm] using this
        | ov _ _ _ => simp at h
theorem sp_spec {α : Type} {v : α} {k : Nat} {T : Tr α} {c : Tr α → Bool} (h : sp (some v) (paOf 40 k) T c = true) : c (T.set k v) = true := sp_spec0 _ _ _ _ _ h
theorem gp_get {α : Type} {k : Nat} {T : Tr α} {c : Option α → Bool} (h : gp (paOf 40 k) T c = true) : c (T.get k) = true := gp_spec _ _ _ _ h

theorem gpT_get {k : Nat} {T : Tr AV} {c : Option AV → Bool} (h : gpT (paOf 40 k) T c = true) : c (T.get k) = true := gp_get (α := AV) h
theorem gpH_get {k : Nat} {T : Tr AO} {c : Option AO → Bool} (h : gpH (paOf 40 k) T c = true) : c (T.get k) = true := gp_get (α := AO) h
theorem spT_spec {v : AV} {k : Nat} {T : Tr AV} {c : Tr AV → Bool} (h : spT v (paOf 40 k) T c = true) : c (T.set k v) = true := sp_spec (α := AV) h
theorem spH_spec {v : AO} {k : Nat} {T : Tr AO} {c : Tr AO → Bool} (h : spH v (paOf 40 k) T c = true) : c (T.set k v) = true := sp_spec (α := AO) h

theorem avPtr_spec {x : AV} {kp : Nat → Nat → Nat → Bool} {kf : List AV → Nat → Bool} (h : avPtr x kp kf = true) : (∃ i r o, x = .ptr i r o ∧ kp i r o = true) ∨ (∃ row o, x = .fp row o ∧ kf row o = true) := by
  cases x <;> first | (cases h; done) | skip
  · exact .inl ⟨_, _, _, rfl, h⟩
  · exact .inr ⟨_, _, rfl, h⟩
theorem avBool_spec {x : AV} {k : Bool → Bool} (h : avBool x k = true) : ∃ b, x = .bool b ∧ k b = true := by
  cases x <;> first | (cases h; done) | exact ⟨_, rfl, h⟩
theorem avTup_spec {x : AV} {k : List AV → Bool} (h : avTup x k = true) : ∃ b, x = .tup b ∧ k b = true := by
  cases x <;> first | (cases h; done) | exact ⟨_, rfl, h⟩
theorem avInt_spec {x : AV} {k : IntKind → Int → Bool} (h : avInt x k = true) : ∃ d n, x = .int d n ∧ k d n = true := by
  cases x <;> first | (cases h; done) | exact ⟨_, _, rfl, h⟩
theorem aoRows_spec {x : Option AO} {k : Nat → List (List AV) → Bool} (h : aoRows x k = true) : ∃ sz rs, x = some (.rows sz rs) ∧ k sz rs = true := by
  cases x with
  | none => cases h
  | some a => cases a <;> first | (cases h; done) | exact ⟨_, _, rfl, h⟩

theorem fN_eq (n : Nat) (k : Nat → Bool) : fN n k = k n := by cases n <;> rfl
theorem fI_eq (n : Int) (k : Int → Bool) : fI n k = k n := by cases n <;> simp only [fI, fN_eq]
theorem fL_eq {α : Type} : ∀ (l : List α) (k : List α → Bool), fL l k = k l
  | [], k => rfl
  | x :: l, k => by
    show fL l (fun l' => k (x :: l')) = k (x :: l)
    rw [fL_eq l]
theorem fv_eq (x : AV) (k : AV → Bool) : fv x k = k x := by
  cases x with
  | bool b => cases b <;> rfl
  | int d n => exact fI_eq n (fun n' => k (.int d n'))
  | ptr i r o =>
    show fN i (fun i => fN r fun r => fN o fun o => k (.ptr i r o)) = _
    simp only [fN_eq]
  | sl i r o =>
    show fN i (fun i => fN r fun r => fN o fun o => k (.sl i r o)) = _
    simp only [fN_eq]
  | agg cs => exact fL_eq cs (fun cs => k (.agg cs))
  | tup cs => exact fL_eq cs (fun cs => k (.tup cs))
  | sy c => exact fN_eq c (fun c => k (.sy c))
  | _ => rfl
theorem nth_spec {α : Type} : ∀ {l : List α} {n : Nat} {k : α → Bool}, nth l n k = true → ∃ x, l[n]? = some x ∧ k x = true
  | [], n, k, h => by simp [nth] at h
  | x :: l, 0, k, h => ⟨x, rfl, h⟩
  | x :: l, n + 1, k, h => by
    have : nth l n k = true := h
    simpa using nth_spec this
theorem setN_eq {α : Type} (y : α) : ∀ (l : List α) (n : Nat) (k : List α → Bool), setN y l n k = k (l.set n y)
  | [], n, k => rfl
  | x :: l, 0, k => rfl
  | x :: l, n + 1, k => by
    show setN y l n (fun l' => k (x :: l')) = _
    rw [setN_eq y l]
    rfl

theorem rd_spec {o : Operand} {T : Tr AV} {k : KV} (h : (rd o).run T k = true) : k (evalA T o) = true := by
  cases o with
  | tmp t =>
    have := gpT_get h
    show k (getT T t) = true
    unfold getT
    cases hx : T.get t with
    | none => rw [hx] at this; exact this
    | some x => rw [hx] at this; exact this
  | const v => exact h
  | func f => exact h
  | global g => exact h
theorem rds_spec : ∀ {os : List Operand} {T : Tr AV} {k : List AV → Bool}, rds (rdL os) T k = true → k (os.map (evalA T)) = true
  | [], T, k, h => h
  | o :: os, T, k, h => by
    have h1 : (rd o).run T (fun x => rds (rdL os) T fun xs => k (x :: xs)) = true := h
    exact rds_spec (k := fun xs => k (evalA T o :: xs)) (rd_spec h1)

theorem genV_spec {x : Option AV} {k : KV} (h : genV x k = true) : ∃ v, x = some v ∧ k v = true := by
  cases x with
  | none => cases h
  | some v =>
    have h : fv v k = true := h
    rw [fv_eq] at h
    exact ⟨v, rfl, h⟩

theorem nat2_spec {a b : Int} {y : Nat → Nat → Bool} {n : Bool} (h : nat2 a b y n = true) : (∃ m m', a = .ofNat m ∧ b = .ofNat m' ∧ y m m' = true) ∨ n = true := by
  cases a <;> cases b
  · exact .inl ⟨_, _, rfl, rfl, h⟩
  · exact .inr h
  · exact .inr h
  · exact .inr h

theorem ib_spec {op : BinOp} {d : IntKind} {a b : Int} {k : KV} {f : IntKind → Int → Int → KV → Bool} (hf : ib op = .mk f) (h : f d a b k = true) : ∃ v, ibin op d a b = some v ∧ k v = true := by
  have gen : ∀ {op : BinOp} {d : IntKind} {a b : Int}, ibG op d a b k = true → ∃ v, ibin op d a b = some v ∧ k v = true := fun h => genV_spec h
  -- a comparison
  have cmp : ∀ {v c : Bool}, ibin op d a b = some (.bool v) → v = c → k (.bool c) = true → ∃ v, ibin op d a b = some v ∧ k v = true := by
    intro v c h1 h2 h3; subst h2; exact ⟨_, h1, h3⟩
  have ble : ∀ m n : Nat, Nat.ble m n = decide (m ≤ n) := fun m n => by
    cases hb : Nat.ble m n with
    | true => exact (decide_eq_true (Nat.le_of_ble_eq_true hb)).symm
    | false => exact (decide_eq_false (fun h => by rw [Nat.ble_eq_true_of_le h] at hb; cases hb)).symm
  cases op <;> simp only [ib, IB.mk.injEq] at hf <;> subst hf <;> simp only [yn, ny, add64] at h <;> try exact gen h
  case add =>
    cases d <;> try exact gen h
    rcases nat2_spec h with ⟨m, n, rfl, rfl, h'⟩ | h'
    · cases hb : Nat.ble (Nat.add m n) 9223372036854775807 with
      | false => simp only [hb] at h'; exact gen h'
      | true =>
        simp only [hb, fN_eq] at h'
        refine ⟨_, ?_, h'⟩
        have : (Int.ofNat m + Int.ofNat n) = Int.ofNat (Nat.add m n) := rfl
        simp only [ibin, this, wrapA, hb, cond_true]
    · exact gen h'
  case eql =>
    rcases nat2_spec h with ⟨m, n, rfl, rfl, h'⟩ | h'
    · cases hb : Nat.beq m n with
      | false =>
        simp only [hb] at h'
        have hne : m ≠ n := fun e => by subst e; rw [beq_true] at hb; cases hb
        exact cmp (v := (Int.ofNat m == Int.ofNat n)) rfl (by simp only [beq_eq_false_iff_ne]; exact fun e => hne (Int.ofNat.inj e)) h'
      | true =>
        simp only [hb] at h'
        have := beqT hb
        subst this
        exact cmp (v := (Int.ofNat m == Int.ofNat m)) rfl (by simp) h'
    · exact gen h'
  case neq =>
    rcases nat2_spec h with ⟨m, n, rfl, rfl, h'⟩ | h'
    · cases hb : Nat.beq m n with
      | false =>
        simp only [hb] at h'
        have hne : m ≠ n := fun e => by subst e; rw [beq_true] at hb; cases hb
        exact cmp (v := (Int.ofNat m != Int.ofNat n)) rfl (by simp only [bne_iff_ne]; exact fun e => hne (Int.ofNat.inj e)) h'
      | true =>
        simp only [hb] at h'
        have := beqT hb
        subst this
        exact cmp (v := (Int.ofNat m != Int.ofNat m)) rfl (by simp) h'
    · exact gen h'
  case lss =>
    rcases nat2_spec h with ⟨m, n, rfl, rfl, h'⟩ | h'
    · have e : decide (Int.ofNat m < Int.ofNat n) = Nat.ble (Nat.succ m) n := by rw [ble]; exact decide_eq_decide.2 ⟨fun h => by have := Int.ofNat_lt.1 h; omega, fun h => Int.ofNat_lt.2 (by omega)⟩
      cases hb : Nat.ble (Nat.succ m) n <;> simp only [hb] at h' <;> exact cmp (v := decide (Int.ofNat m < Int.ofNat n)) rfl (e.trans hb) h'
    · exact gen h'
  case leq =>
    rcases nat2_spec h with ⟨m, n, rfl, rfl, h'⟩ | h'
    · have e : decide (Int.ofNat m ≤ Int.ofNat n) = Nat.ble m n := by rw [ble]; exact decide_eq_decide.2 ⟨fun h => Int.ofNat_le.1 h, fun h => Int.ofNat_le.2 h⟩
      cases hb : Nat.ble m n <;> simp only [hb] at h' <;> exact cmp (v := decide (Int.ofNat m ≤ Int.ofNat n)) rfl (e.trans hb) h'
    · exact gen h'
  case gtr =>
    rcases nat2_spec h with ⟨m, n, rfl, rfl, h'⟩ | h'
    · have e : decide (Int.ofNat m > Int.ofNat n) = Nat.ble (Nat.succ n) m := by rw [ble]; exact decide_eq_decide.2 ⟨fun h => by have := Int.ofNat_lt.1 h; omega, fun h => Int.ofNat_lt.2 (by omega)⟩
      cases hb : Nat.ble (Nat.succ n) m <;> simp only [hb] at h' <;> exact cmp (v := decide (Int.ofNat m > Int.ofNat n)) rfl (e.trans hb) h'
    · exact gen h'
  case geq =>
    rcases nat2_spec h with ⟨m, n, rfl, rfl, h'⟩ | h'
    · have e : decide (Int.ofNat m ≥ Int.ofNat n) = Nat.ble n m := by rw [ble]; exact decide_eq_decide.2 ⟨fun h => Int.ofNat_le.1 h, fun h => Int.ofNat_le.2 h⟩
      cases hb : Nat.ble n m <;> simp only [hb] at h' <;> exact cmp (v := decide (Int.ofNat m ≥ Int.ofNat n)) rfl (e.trans hb) h'
    · exact gen h'

theorem load1_spec {ti : TI} (ht : ti.isAgg = false) {x : AV} {H : Heap} {k : KV} (h : load1 x H k = true) : ∃ v, loadA ti H x = some v ∧ k v = true := by
  rcases avPtr_spec h with ⟨i, r, o, rfl, h⟩ | ⟨row, o, rfl, h⟩
  · obtain ⟨sz, rs, hg, h⟩ := aoRows_spec (gpH_get h)
    obtain ⟨row, h1, h2⟩ := nth_spec h
    obtain ⟨v, h3, h4⟩ := nth_spec h2
    exact ⟨v, by simp only [loadA, hg, h1, part, ht, cond_false, h3], h4⟩
  · obtain ⟨v, h3, h4⟩ := nth_spec h
    exact ⟨v, by simp only [loadA, part, ht, cond_false, h3], h4⟩
theorem loadG_spec {ti : TI} {x : AV} {H : Heap} {k : KV} (h : loadG ti x H k = true) : ∃ v, loadA ti H x = some v ∧ k v = true := by
  rcases avPtr_spec h with ⟨i, r, o, rfl, h⟩ | ⟨row, o, rfl, h⟩
  · obtain ⟨sz, rs, hg, h⟩ := aoRows_spec (gpH_get h)
    obtain ⟨row, h1, h2⟩ := nth_spec h
    obtain ⟨v, h3, h4⟩ := genV_spec h2
    exact ⟨v, by simp only [loadA, hg, h1, h3], h4⟩
  · obtain ⟨v, h3, h4⟩ := genV_spec h
    exact ⟨v, by simp only [loadA, h3], h4⟩
theorem storeC_spec {ti : TI} {a x : AV} {H : Heap} {k : Heap → Bool} (h : storeC ti a x H k = true) : ∃ H', storeA ti H a x = some H' ∧ k H' = true := by
  rcases avPtr_spec h with ⟨i, r, o, rfl, h⟩ | ⟨row, o, rfl, h⟩
  · obtain ⟨sz, rs, hg, h⟩ := aoRows_spec (gpH_get h)
    obtain ⟨row, h1, h2⟩ := nth_spec h
    cases hb : (Nat.beq x.cells.length ti.size && x.cells.all AV.leaf && Nat.ble (o + ti.size) row.length) with
    | false => rw [hb] at h2; cases h2
    | true =>
      rw [hb] at h2
      simp only [fL_eq, setN_eq] at h2
      exact ⟨_, by simp only [storeA, hg, h1, hb, cond_true], spH_spec h2⟩
  · cases h

theorem out3_spec {x : R3} {k : K3} (h : out3 x k = true) : ∃ y H' nx', x = some (y, H', nx') ∧ k y H' nx' = true := by
  cases x with
  | none => cases h
  | some p =>
    obtain ⟨y, H', nx'⟩ := p
    have h : fv y (fun x => fN nx' fun nx' => k x H' nx') = true := h
    rw [fv_eq, fN_eq] at h
    exact ⟨y, H', nx', rfl, h⟩
theorem genN_spec {E : Env} {o : Op} {T : Tr AV} {H : Heap} {nx : Nat} {k : K3} (h : (genN E o).run T H nx k = true) : ∃ x H' nx', operA E o T H nx = some (x, H', nx') ∧ k x H' nx' = true := out3_spec h

/-- A binary operation's answer. -/
def binR (E : Env) (op : BinOp) (t : Nat) (x y : AV) : Option AV := match x, y with
    | .agg xs, .agg ys => (match E.eq.get t with | some ds => (match leavesEq ds xs ys with | some b => eqB op b | none => none) | none => none)
    | x, y => (match E.ty.get t with | some ti => binA ti.td op x y | none => none)
theorem isAggV_false {x : AV} (h : isAggV x = false) : ∀ xs, x ≠ .agg xs := by
  intro xs e; subst e; cases h
theorem binG_spec {E : Env} {op : BinOp} {t : Nat} {x y : AV} {k : KV} (h : binG E op t x y k = true) : ∃ z, binR E op t x y = some z ∧ k z = true := by
  unfold binG at h
  cases ha : isAggV x with
  | false =>
    simp only [ha] at h
    have hne := isAggV_false ha
    split at h
    · rename_i ti ht
      obtain ⟨z, h1, h2⟩ := genV_spec h
      refine ⟨z, ?_, h2⟩
      unfold binR
      split
      · rename_i xs ys
        exact (hne xs rfl).elim
      · simp only [ht]; exact h1
    · cases h
  | true =>
    simp only [ha] at h
    split at h
    · split at h
      · rename_i ds hd
        split at h
        · rename_i b hb
          obtain ⟨z, h1, h2⟩ := genV_spec h
          exact ⟨z, by simp only [binR, hd, hb]; exact h1, h2⟩
        · cases h
      · cases h
    · rename_i x y hne2
      split at h
      · rename_i ti ht
        obtain ⟨z, h1, h2⟩ := genV_spec h
        refine ⟨z, ?_, h2⟩
        unfold binR
        split
        · rename_i xs ys
          exact (hne2 xs ys rfl rfl).elim
        · simp only [ht]; exact h1
      · cases h
theorem binB_spec {E : Env} {op : BinOp} {t : Nat} {f : AV → AV → KV → Bool} (hf : binB E op t = .mk f) {x y : AV} {k : KV} (h : f x y k = true) : ∃ z, binR E op t x y = some z ∧ k z = true := by
  unfold binB at hf
  cases hb : (isShift op || !(E.ty.get t).isSome) with
  | true =>
    rw [hb, cond_true] at hf
    cases hf
    exact binG_spec h
  | false =>
    rw [hb, cond_false] at hf
    simp only [Bool.or_eq_false_iff, Bool.not_eq_false'] at hb
    split at hf
    rename_i g hg
    cases hf
    cases hx : isInt x with
    | false => simp only [hx] at h; exact binG_spec h
    | true =>
      cases hy : isInt y with
      | false => simp only [hx, hy] at h; exact binG_spec h
      | true =>
        simp only [hx, hy] at h
        obtain ⟨d, a, rfl, h3⟩ := avInt_spec h
        clear h
        obtain ⟨d', b, rfl, h⟩ := avInt_spec h3
        clear h3
        cases hk : sameKind d d' with
        | false => rw [hk] at h; cases h
        | true =>
          rw [hk] at h
          obtain ⟨z, h1, h2⟩ := ib_spec hg h
          refine ⟨z, ?_, h2⟩
          obtain ⟨ti, ht⟩ := Option.isSome_iff_exists.1 hb.2
          simp only [binR, ht]
          have hs := hb.1
          cases op <;> simp only [isShift, Bool.true_eq_false] at hs <;> (simp only [binA, hk, cond_true]; exact h1)
theorem binR_op {E : Env} {op : BinOp} {t t2 : Nat} {x y : Operand} {T : Tr AV} {H : Heap} {nx : Nat} {z : AV} (h1 : binR E op t (evalA T x) (evalA T y) = some z) : operA E (.binOp op t x y t2) T H nx = some (z, H, nx) := by
  simp only [operA]
  revert h1
  unfold binR
  split
  · rename_i xs ys e1 e2
    split
    · rename_i ds e3
      split
      · rename_i b e4
        intro h1
        simp only [e1, e2, e3, e4, h1, Go.Cl.keep]
      · intro h1; cases h1
    · intro h1; cases h1
  · rename_i hne
    split
    · rename_i ti e3
      intro h1
      split
      · rename_i xs ys e1 e2
        exact (hne _ _ e1 e2).elim
      · simp only [e3, h1, Go.Cl.keep]
    · intro h1; cases h1
theorem rd_mk {o : Operand} {f : Tr AV → KV → Bool} (hf : rd o = .mk f) {T : Tr AV} {k : KV} (h : f T k = true) : k (evalA T o) = true := rd_spec (by rw [hf]; exact h)
theorem nonNil_spec {x : AV} (h : nonNil x = true) : (∃ i r o, x = .ptr i r o) ∨ (∃ row o, x = .fp row o) ∨ (∃ t v, x = .ifc t v) ∨ ∃ f a b, x = .fn f a b := by
  cases x <;> first | (cases h; done) | simp

theorem nop_spec {E : Env} {o : Op} {T : Tr AV} {H : Heap} {nx : Nat} {k : K3} (h : (nop E o).run T H nx k = true) : ∃ x H' nx', operA E o T H nx = some (x, H', nx') ∧ k x H' nx' = true := by
  unfold nop at h
  split at h
  · split at h
    rename_i f hf
    exact ⟨_, _, _, rfl, rd_mk hf h⟩
  · split at h
    rename_i f hf
    exact ⟨_, _, _, rfl, rd_mk hf h⟩
  · rename_i c a b
    obtain ⟨cb, hc, h⟩ := avBool_spec (rd_spec h)
    cases cb with
    | true => exact ⟨_, _, _, by simp only [operA, hc], rd_spec h⟩
    | false => exact ⟨_, _, _, by simp only [operA, hc], rd_spec h⟩
  · rename_i t
    split at h
    · rename_i ti ht
      cases hb : (Nat.ble 1 ti.size && Nat.beq ti.zero.length ti.size && ti.zero.all AV.leaf) with
      | false => rw [hb] at h; cases h
      | true =>
        rw [hb, cond_true] at h
        have h := spH_spec h
        rw [fN_eq] at h
        exact ⟨_, _, _, by simp only [operA, ht, newRow1, hb, cond_true], h⟩
    · cases h
  · rename_i t a
    split at h
    · rename_i ti ht
      split at h
      rename_i f hf
      cases hb : ti.isAgg with
      | true =>
        rw [hb, cond_true] at h
        obtain ⟨v, h1, h2⟩ := loadG_spec (rd_mk hf h)
        exact ⟨_, _, _, by simp only [operA, ht, h1, Go.Cl.keep], h2⟩
      | false =>
        rw [hb, cond_false] at h
        obtain ⟨v, h1, h2⟩ := load1_spec hb (rd_mk hf h)
        exact ⟨_, _, _, by simp only [operA, ht, h1, Go.Cl.keep], h2⟩
    · cases h
  · rename_i t a x
    split at h
    · rename_i ti ht
      split at h
      rename_i f g hf hg
      have h3 := rd_mk hf h
      have h4 := rd_mk hg h3
      obtain ⟨H', h1, h2⟩ := storeC_spec h4
      exact ⟨_, _, _, by simp only [operA, ht, h1], h2⟩
    · cases h
  · rename_i x
    split at h
    rename_i f hf
    have h := rd_mk hf h
    cases hn : nonNil (evalA T x) with
    | false => rw [hn] at h; cases h
    | true =>
      rw [hn] at h
      rcases nonNil_spec hn with ⟨_, _, _, he⟩ | ⟨_, _, he⟩ | ⟨_, _, he⟩ | ⟨_, _, _, he⟩ <;> exact ⟨_, H, nx, by simp only [operA, he], he ▸ h⟩
  · rename_i op t x y _
    split at h
    rename_i f g b hf hg hb
    obtain ⟨z, h1, h2⟩ := binB_spec hb (rd_mk hg (rd_mk hf h))
    exact ⟨z, H, nx, binR_op h1, h2⟩
  · rename_i t x f
    split at h
    · rename_i off fi hf
      cases hb : Nat.beq fi.size 0 with
      | true => rw [hb, cond_true] at h; cases h
      | false =>
        rw [hb, cond_false] at h
        split at h
        rename_i f' hf'
        rcases avPtr_spec (rd_mk hf' h) with ⟨i, r, o, he, h⟩ | ⟨row, o, he, h⟩
        · rw [fN_eq] at h
          exact ⟨_, _, _, by simp only [operA, fieldAddrA, hf, hb, cond_false, he, Go.Cl.keep]; rfl, h⟩
        · cases hb2 : Nat.ble (o + off) row.length with
          | true =>
            rw [hb2, cond_true, fN_eq] at h
            exact ⟨_, _, _, by simp only [operA, fieldAddrA, hf, hb, cond_false, he, hb2, cond_true, Go.Cl.keep]; rfl, h⟩
          | false => rw [hb2, cond_false] at h; cases h
    · cases h
  · rename_i t x i
    obtain ⟨z, h1, h2⟩ := genV_spec (rd_spec (rd_spec h))
    exact ⟨_, _, _, by simp only [operA, h1, Go.Cl.keep], h2⟩
  · rename_i t i
    split at h
    rename_i f hf
    obtain ⟨vs, he, h⟩ := avTup_spec (rd_mk hf h)
    obtain ⟨x, h1, h2⟩ := nth_spec h
    exact ⟨_, _, _, by simp only [operA, he, h1, Go.Cl.keep], h2⟩
  · exact genN_spec h

theorem putB_spec {nt : Nat} {dst : Option Nat} {f : AV → Tr AV → (Tr AV → Bool) → Bool} (hf : putB nt dst = .mk f) {x : AV} {T : Tr AV} {k : Tr AV → Bool} (h : f x T k = true) : ∃ T', putA nt T dst x = some T' ∧ k T' = true := by
  cases dst with
  | none =>
    simp only [putB, PB.mk.injEq] at hf
    subst hf
    exact ⟨T, rfl, h⟩
  | some d =>
    simp only [putB] at hf
    cases hb : Nat.ble (d + 1) nt with
    | false =>
      rw [hb, cond_false] at hf
      cases hf
      cases h
    | true =>
      rw [hb, cond_true] at hf
      cases hf
      exact ⟨_, by simp only [putA, hb, cond_true], spT_spec h⟩
theorem putC_spec {nt : Nat} {dst : Option Nat} {x : AV} {T : Tr AV} {k : Tr AV → Bool} (h : putC nt dst x T k = true) : ∃ T', putA nt T dst x = some T' ∧ k T' = true := by
  unfold putC at h
  generalize hb : putB nt dst = b at h
  cases b
  exact putB_spec hb h
end Go.Cl
