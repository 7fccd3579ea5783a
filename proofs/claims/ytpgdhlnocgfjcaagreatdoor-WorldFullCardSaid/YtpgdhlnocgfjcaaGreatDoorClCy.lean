/- Drawn regions: the list of what may be owed, and a node of the tree of orders. -/
import Derived.Test.YtpgdhlnocgfjcaaGreatDoorClCx
set_option linter.unusedSimpArgs false
set_option linter.unusedVariables false
set_option linter.unusedSectionVars false
namespace Go.Cl

/-- What may be owed, of itself. -/
structure LInv (ops : Array Oper) (ds : List Nat) (C : Nat) (L : List Rec) (s : St) (nt n0 : Nat) : Prop where
  op : ∀ q ∈ L, ops[q.i]? = some q.o ∧ bit C q.i = true ∧ isEff q.o.op = false ∧ dstIn q.o.dst (looksAt ops q.o) = false
  sep : ∀ q ∈ L, ∀ q' ∈ L, q.i ≠ q'.i → (bit (ds.getD q.i 0) q'.i = true ∨ dstIn q'.o.dst (looksAt ops q.o) = false) ∧ dstSame q.o.dst q'.o.dst = false
  one : ∀ q ∈ L, ∀ q' ∈ L, q.i = q'.i → q = q'
  low : ∀ q ∈ L, q.fresh = true → n0 ≤ q.r ∧ q.r < s.nx
  lt : ∀ q ∈ L, ∀ t, q.o.dst = some t → t < nt
  names : ∀ q ∈ L, ∀ q' ∈ L, q.fresh = true → q'.fresh = true → q.i ≠ q'.i → q.r ≠ q'.r
  val : ∀ q ∈ L, ∀ t, q.o.dst = some t → s.T.get t = some q.y

/-- The temporaries of what is owed. -/
def owedD (X : Nat → Bool) : List Rec → List Nat
  | [] => []
  | q :: L => match X q.i, q.o.dst with
    | false, some t => t :: owedD X L
    | _, _ => owedD X L
theorem owedD_iff {X : Nat → Bool} {L : List Rec} {t : Nat} : t ∈ owedD X L ↔ ∃ q ∈ L, X q.i = false ∧ q.o.dst = some t := by
  induction L with
  | nil => simp [owedD]
  | cons q L ih =>
    simp only [owedD]
    cases hx : X q.i with
    | true =>
      simp only [ih, List.mem_cons, exists_eq_or_imp, hx, Bool.true_eq_false, false_and, false_or]
    | false =>
      cases hd : q.o.dst with
      | none => simp only [ih, List.mem_cons, exists_eq_or_imp, hd, reduceCtorEq, and_false, false_or]
      | some t' =>
        simp only [List.mem_cons, ih, exists_eq_or_imp, hx, hd, Option.some.injEq, true_and]
        constructor
        · rintro (rfl | h)
          · exact .inl rfl
          · exact .inr h
        · rintro (rfl | h)
          · exact .inl rfl
          · exact .inr h

/-- A node: so much is listed; B says where it began. -/
structure Inv (ops : Array Oper) (C : Nat) (L : List Rec) (s : St) (nt : Nat) (df : List Deferred) (B : (Nat → Loc) → Heap → Gh → Nat → World → Prop) (X : Nat → Bool) (ρ : Nat → Loc) (U : Gh) (a : Act) (w : World) : Prop where
  closed : Closed ops X
  sub : ∀ i, i < ops.size → X i = true → bit C i = true
  owed : ∀ i, i < ops.size → bit C i = true → X i = false → ∃ q ∈ L, q.i = i
  tr : TRD ρ s.H U w (owedD X L) s.T a.tmps
  rel : Rel ρ s.H U w
  bound : Bound U s.nx
  size : a.tmps.size = nt
  defers : a.defers = df
  ph : ∀ q ∈ L, q.fresh = true → X q.i = false → ¬ U q.r
  base : B ρ s.H U s.nx w

theorem dstIn_false {dst : Option Tmp} {l : List Tmp} (h : dstIn dst l = false) {t : Tmp} (ht : dst = some t) : t ∉ l := by
  subst ht
  simp only [dstIn] at h
  intro hm
  have := List.any_eq_false.1 h t hm
  exact this (beq_true t)
theorem dstSame_false {a b : Option Tmp} (h : dstSame a b = false) {t : Tmp} (ha : a = some t) : b ≠ some t := by
  subst ha
  intro hb
  subst hb
  simp only [dstSame] at h
  rw [beq_true] at h
  cases h

/-- One more is listed. -/
def more (X : Nat → Bool) (i : Nat) : Nat → Bool := fun j => Nat.beq j i || X j
theorem more_iff {X : Nat → Bool} {i j : Nat} : more X i j = true ↔ j = i ∨ X j = true := by
  simp only [more, Bool.or_eq_true]
  constructor
  · rintro (h | h)
    · exact .inl (beqT h)
    · exact .inr h
  · rintro (h | h)
    · exact .inl (h ▸ beq_true _)
    · exact .inr h
theorem more_false {X : Nat → Bool} {i j : Nat} : more X i j = false ↔ j ≠ i ∧ X j = false := by
  constructor
  · intro h
    refine ⟨fun e => ?_, ?_⟩
    · have := (more_iff (X := X) (i := i) (j := j)).2 (.inl e)
      rw [h] at this; cases this
    · cases hx : X j with
      | false => rfl
      | true =>
        have := (more_iff (X := X) (i := i) (j := j)).2 (.inr hx)
        rw [h] at this; cases this
  · rintro ⟨h1, h2⟩
    cases hm : more X i j with
    | false => rfl
    | true =>
      rcases more_iff.1 hm with h | h
      · exact absurd h h1
      · rw [h2] at h; cases h
theorem more_closed {ops : Array Oper} {X : Nat → Bool} {i : Nat} {o : Oper} (hX : Closed ops X) (ho : ops[i]? = some o) (hr : ∀ e ∈ o.after.toList, Region.binds .any e = true → X e.on = true) : Closed ops (more X i) := by
  intro j o' hj ho' e he hb
  rcases more_iff.1 hj with rfl | hj
  · rw [ho] at ho'
    cases ho'
    exact more_iff.2 (.inr (hr e he hb))
  · exact more_iff.2 (.inr (hX j o' hj ho' e he hb))
end Go.Cl
