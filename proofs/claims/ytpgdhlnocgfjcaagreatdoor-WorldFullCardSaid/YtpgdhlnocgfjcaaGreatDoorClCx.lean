/- Drawn regions: what stands ahead is done. -/
import Derived.Test.YtpgdhlnocgfjcaaGreatDoorClCw
set_option linter.unusedSimpArgs false
set_option linter.unusedVariables false
set_option linter.unusedSectionVars false
namespace Go.Cl

theorem downs_prefix : ∀ (os : List Oper) (acc : List Nat), ∃ rest, downs os acc = acc ++ rest
  | [], acc => ⟨[], by simp [downs]⟩
  | o :: os, acc => by
    obtain ⟨rest, h⟩ := downs_prefix os (acc ++ [edgesD acc o.after.toList])
    exact ⟨edgesD acc o.after.toList :: rest, by simp [downs, h]⟩
theorem getD_append_left {l r : List Nat} {j : Nat} (h : j < l.length) : (l ++ r).getD j 0 = l.getD j 0 := by
  simp [List.getD_eq_getElem?_getD, List.getElem?_append_left h]

theorem downs_spec : ∀ (os : List Oper) (acc : List Nat) (k : Nat) (o : Oper), os[k]? = some o → ∃ pre : List Nat, pre.length = acc.length + k ∧ (∀ j, j < pre.length → pre.getD j 0 = (downs os acc).getD j 0) ∧ (downs os acc).getD (acc.length + k) 0 = edgesD pre o.after.toList
  | [], acc, k, o, h => by simp at h
  | o' :: os, acc, 0, o, h => by
    simp only [List.getElem?_cons_zero, Option.some.injEq] at h
    subst h
    obtain ⟨rest, hr⟩ := downs_prefix os (acc ++ [edgesD acc o'.after.toList])
    refine ⟨acc, rfl, fun j hj => ?_, ?_⟩
    · simp only [downs, hr]
      rw [List.append_assoc, getD_append_left hj]
    · simp only [downs, hr, Nat.add_zero]
      rw [getD_append_left (by simp)]
      simp [List.getD_eq_getElem?_getD]
  | o' :: os, acc, k + 1, o, h => by
    simp only [List.getElem?_cons_succ] at h
    obtain ⟨pre, h1, h2, h3⟩ := downs_spec os (acc ++ [edgesD acc o'.after.toList]) k o h
    refine ⟨pre, by simp at h1; omega, fun j hj => ?_, ?_⟩
    · simp only [downs]
      exact h2 j hj
    · simp only [downs]
      rw [show acc.length + (k + 1) = (acc ++ [edgesD acc o'.after.toList]).length + k by simp; omega]
      exact h3

theorem edgesD_iff {ds : List Nat} {es : List Edge} {j : Nat} : bit (edgesD ds es) j = true ↔ ∃ e ∈ es, Region.binds .any e = true ∧ (e.on = j ∨ bit (ds.getD e.on 0) j = true) := by
  induction es with
  | nil => simp [edgesD, bit_zero]
  | cons e es ih =>
    unfold edgesD
    cases hb : Region.binds .any e with
    | false =>
      rw [cond_false, ih]
      constructor
      · rintro ⟨e', h1, h2⟩; exact ⟨e', by simp [h1], h2⟩
      · rintro ⟨e', h1, h2, h3⟩
        rcases List.mem_cons.1 h1 with rfl | h1
        · rw [hb] at h2; cases h2
        · exact ⟨e', h1, h2, h3⟩
    | true =>
      rw [cond_true, bit_lor, bit_lor, bit_one, ih]
      constructor
      · rintro ((h | h) | ⟨e', h1, h2⟩)
        · exact ⟨e, by simp, hb, .inl h.symm⟩
        · exact ⟨e, by simp, hb, .inr h⟩
        · exact ⟨e', by simp [h1], h2⟩
      · rintro ⟨e', h1, h2, h3⟩
        rcases List.mem_cons.1 h1 with rfl | h1
        · rcases h3 with h3 | h3
          · exact .inl (.inl h3.symm)
          · exact .inl (.inr h3)
        · exact .inr ⟨e', h1, h2, h3⟩

/-- What is done is done behind what stands ahead of it. -/
def Closed (ops : Array Oper) (X : Nat → Bool) : Prop := ∀ i o, X i = true → ops[i]? = some o → ∀ e ∈ o.after.toList, Region.binds .any e = true → X e.on = true

theorem down_closed {ops : Array Oper} {X : Nat → Bool} (hX : Closed ops X) (hlt : ∀ i o, ops[i]? = some o → ∀ e ∈ o.after.toList, Region.binds .any e = true → e.on < i) :
    ∀ (i : Nat) (o : Oper), ops[i]? = some o → (∀ e ∈ o.after.toList, Region.binds .any e = true → X e.on = true) → ∀ j, bit ((downs ops.toList []).getD i 0) j = true → X j = true := by
  intro i
  induction i using Nat.strongRecOn with
  | _ i ih =>
    intro o ho hr j hj
    obtain ⟨pre, h1, h2, h3⟩ := downs_spec ops.toList [] i o (by simpa using ho)
    simp only [List.length_nil, Nat.zero_add] at h1 h3
    rw [h3, edgesD_iff] at hj
    obtain ⟨e, he, hb, hj⟩ := hj
    have hXe := hr e he hb
    rcases hj with rfl | hj
    · exact hXe
    · have hei := hlt i o ho e he hb
      rw [h2 e.on (by omega)] at hj
      have hlen := (Array.getElem?_eq_some_iff.1 ho).1
      have hoe : ops[e.on]? = some ops[e.on] := Array.getElem?_eq_getElem (by omega)
      exact ih e.on hei _ hoe (fun e' he' hb' => hX e.on _ hXe hoe e' he' hb') j hj

theorem zops_mem : ∀ (os : List Oper) (k : Nat) (o : Oper) (i : Nat), (o, i) ∈ zops os k ↔ k ≤ i ∧ os[i - k]? = some o
  | [], k, o, i => by simp [zops]
  | o' :: os, k, o, i => by
    simp only [zops, List.mem_cons, Prod.mk.injEq, zops_mem os (k + 1) o i]
    constructor
    · rintro (⟨rfl, rfl⟩ | ⟨h1, h2⟩)
      · exact ⟨Nat.le_refl _, by simp⟩
      · refine ⟨by omega, ?_⟩
        rw [show i - k = (i - (k + 1)) + 1 by omega]
        simpa using h2
    · rintro ⟨h1, h2⟩
      by_cases h : i = k
      · subst h
        simp at h2
        exact .inl ⟨h2.symm, rfl⟩
      · right
        rw [show i - k = (i - (k + 1)) + 1 by omega] at h2
        exact ⟨by omega, by simpa using h2⟩
theorem zops_iff {ops : Array Oper} {o : Oper} {i : Nat} : (o, i) ∈ zops ops.toList 0 ↔ ops[i]? = some o := by
  rw [zops_mem]
  simp

theorem static_lt {ops : Array Oper} (h : staticOk ops = true) : ∀ i o, ops[i]? = some o → ∀ e ∈ o.after.toList, Region.binds .any e = true → e.on < i := by
  have key : ∀ (zs : List (Oper × Nat)), sepAll zs = true → ∀ o i, (o, i) ∈ zs → ∀ e ∈ o.after.toList, Region.binds .any e = true → e.on < i := by
    intro zs
    induction zs with
    | nil => intro _ o i hm; cases hm
    | cons z zs ih =>
      intro hs o i hm e he hb
      obtain ⟨o', i'⟩ := z
      simp only [sepAll, Bool.and_eq_true] at hs
      rcases List.mem_cons.1 hm with hm | hm
      · cases hm
        have := List.all_eq_true.1 hs.1 e he
        simp only [hb, Bool.not_true, Bool.false_or] at this
        exact bleT this
      · exact ih hs.2 o i hm e he hb
  exact fun i o ho => key _ h o i (zops_iff.2 ho)
end Go.Cl
