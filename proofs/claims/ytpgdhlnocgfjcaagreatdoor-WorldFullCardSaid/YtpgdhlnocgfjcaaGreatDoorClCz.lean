/- Drawn regions: an operation that is no effect leaves the heap, but for one new object. -/
import Derived.Test.YtpgdhlnocgfjcaaGreatDoorClCy
set_option linter.unusedSimpArgs false
set_option linter.unusedVariables false
set_option linter.unusedSectionVars false
namespace Go.Cl

def Stays (H : Heap) (nx : Nat) (H' : Heap) (nx' : Nat) : Prop := (H' = H ∧ nx' = nx) ∨ (∃ o, H' = H.set nx o ∧ nx' = nx + 1)

theorem keep_stays {x : Option AV} {y : AV} {H H' : Heap} {nx nx' : Nat} (h : Go.Cl.keep x H nx = some (y, H', nx')) : Stays H nx H' nx' := by
  obtain ⟨_, h1, h2⟩ := keep_some h
  exact .inl ⟨h1, h2⟩
theorem newRows_stays {sz : Nat} {rs : List (List AV)} {mk : Nat → AV} {y : AV} {H H' : Heap} {nx nx' : Nat} (h : newRows sz rs mk H nx = some (y, H', nx')) : Stays H nx H' nx' := by
  obtain ⟨_, _, _, h1, h2⟩ := newRows_some h
  exact .inr ⟨_, h1, h2⟩
theorem newRow1_stays {sz : Nat} {row : List AV} {y : AV} {H H' : Heap} {nx nx' : Nat} (h : newRow1 sz row H nx = some (y, H', nx')) : Stays H nx H' nx' := by
  obtain ⟨_, _, _, _, h1, h2⟩ := newRow1_some h
  exact .inr ⟨_, h1, h2⟩

theorem buildSlice_stays {E : Env} {t n : Nat} {parts : List (Nat × AV)} {y : AV} {H H' : Heap} {nx nx' : Nat} (h : buildSliceA E t n parts H nx = some (y, H', nx')) : Stays H nx H' nx' := by
  unfold buildSliceA at h
  split at h <;> try cases h
  split at h <;> try cases h
  split at h <;> try cases h
  rename_i ei hei
  cases hb : (Nat.ble (n * ei.size) 16777216 && Nat.beq ei.zero.length ei.size) with
  | false => rw [hb, cond_false] at h; cases h
  | true =>
    rw [hb, cond_true] at h
    split at h <;> try cases h
    exact newRows_stays h
theorem makeSlice_stays {E : Env} {t : Nat} {l c y : AV} {H H' : Heap} {nx nx' : Nat} (h : makeSliceA E t l c H nx = some (y, H', nx')) : Stays H nx H' nx' := by
  unfold makeSliceA at h
  split at h <;> try cases h
  split at h <;> try cases h
  split at h <;> try cases h
  rw [Bool.cond_eq_ite] at h
  split at h
  · exact newRows_stays h
  · cases h
theorem conv_stays {E : Env} {src dst : Nat} {x y : AV} {H H' : Heap} {nx nx' : Nat} (h : convA E src dst x H nx = some (y, H', nx')) : Stays H nx H' nx' := by
  unfold convA at h
  split at h <;> try cases h
  split at h
  · cases h; exact .inl ⟨rfl, rfl⟩
  · cases h; exact .inl ⟨rfl, rfl⟩
  · split at h <;> try cases h
    split at h <;> try cases h
    split at h <;> try cases h
    split at h <;> cases h
    exact .inl ⟨rfl, rfl⟩
  · rename_i l _
    split at h <;> try cases h
    split at h <;> try cases h
    cases hb : Nat.ble l.length 1099511627776 with
    | false => rw [hb, cond_false] at h; cases h
    | true =>
      rw [hb, cond_true] at h
      exact newRows_stays h
  · split at h <;> try cases h
    split at h <;> try cases h
    cases hb : Nat.beq src dst with
    | false => rw [hb, cond_false] at h; cases h
    | true =>
      rw [hb, cond_true] at h
      cases h
      exact .inl ⟨rfl, rfl⟩
  · cases h

theorem operA_stays {E : Env} {o : Op} (he : isEff o = false) {T : Tr AV} {y : AV} {H H' : Heap} {nx nx' : Nat} (h : operA E o T H nx = some (y, H', nx')) : Stays H nx H' nx' := by
  unfold operA at h
  split at h <;> simp only [isEff, reduceCtorEq, Bool.true_eq_false] at he
  · cases h; exact .inl ⟨rfl, rfl⟩
  · cases h; exact .inl ⟨rfl, rfl⟩
  · split at h <;> cases h <;> exact .inl ⟨rfl, rfl⟩
  · split at h <;> try cases h
    exact newRow1_stays h
  · split at h <;> try cases h
    exact newRow1_stays h
  · exact keep_stays h
  · exact buildSlice_stays h
  · split at h <;> try cases h
    exact keep_stays h
  · split at h <;> cases h <;> exact .inl ⟨rfl, rfl⟩
  · split at h
    · split at h <;> try cases h
      split at h <;> try cases h
      exact keep_stays h
    · split at h <;> try cases h
      exact keep_stays h
  · split at h <;> cases h <;> exact .inl ⟨rfl, rfl⟩
  · exact conv_stays h
  · split at h <;> try cases h
    rename_i ti _
    cases hb : notIfc ti.td with
    | false => rw [hb, cond_false] at h; cases h
    | true => rw [hb, cond_true] at h; cases h; exact .inl ⟨rfl, rfl⟩
  · cases h; exact .inl ⟨rfl, rfl⟩
  · split at h
    · cases h; exact .inr ⟨_, rfl, rfl⟩
    · split at h <;> try cases h
      split at h <;> cases h
      exact .inr ⟨_, rfl, rfl⟩
  · exact makeSlice_stays h
  · exact keep_stays h
  · exact keep_stays h
  · exact keep_stays h
  · exact keep_stays h
  · exact keep_stays h
  · exact keep_stays h
  · rename_i t ok
    split at h <;> try cases h
    rename_i ti t' v _ _
    cases hb : (notIfc ti.td && Nat.beq t' t) with
    | false => rw [hb, cond_false] at h; cases h
    | true => rw [hb, cond_true] at h; cases h; exact .inl ⟨rfl, rfl⟩
  · split at h <;> try cases h
    exact keep_stays h
  · rename_i c
    split at h <;> try cases h
    rename_i b hb
    unfold builtinA at h
    split at h
    all_goals first
      | exact keep_stays h
      | (simp only [isEff, hb, Bool.true_eq_false] at he; done)
      | (simp [hb] at he; done)
      | (cases h; done)
  · cases h
end Go.Cl
