/- Drawn regions: one operation, where some temporaries are not there yet. -/
import Derived.Test.YtpgdhlnocgfjcaaGreatDoorClCv
set_option linter.unusedSimpArgs false
set_option linter.unusedVariables false
set_option linter.unusedSectionVars false
namespace Go.Cl

/-- Temporaries, but for some. -/
def TRD (ρ : Nat → Loc) (H : Heap) (U : Gh) (w : World) (D : List Nat) (T : Tr AV) (tmps : Array Value) : Prop := ∀ t x, T.get t = some x → t ∉ D → RV ρ H U w x (tmps.getD t undef)

def hide : List Nat → Tr AV → Tr AV
  | [], T => T
  | d :: ds, T => (hide ds T).del d
theorem hide_get : ∀ (D : List Nat) (T : Tr AV) (t : Nat), (hide D T).get t = if t ∈ D then none else T.get t
  | [], T, t => by simp [hide]
  | d :: ds, T, t => by
    simp only [hide, Tr.get_del, hide_get ds T t]
    by_cases h : t = d
    · subst h; simp
    · simp [h]

section
variable {P : Program} {E : Env} (hE : E.Ok P) {call : CallA} (hc : CallOk P call) {ρ : Nat → Loc} {H : Heap} {U : Gh} {w : World} {nt : Nat} {ops : Array Oper} {r : Option Nat} {D : List Nat} {df : List Deferred}

theorem TRD.hide {T : Tr AV} {tmps : Array Value} (h : TRD ρ H U w D T tmps) : TR ρ H U w (hide D T) tmps := by
  intro t x hx
  rw [hide_get] at hx
  split at hx
  · cases hx
  · rename_i hn
    exact h t x hx hn

theorem evalA_eq {T T0 : Tr AV} {o : Oper} (h : ∀ t ∈ looksAt ops o, T.get t = T0.get t) : (∀ x ∈ o.op.operands.toList, evalA T x = evalA T0 x) ∧ wantedA ops T o = wantedA ops T0 o := by
  constructor
  · intro x hx
    cases x <;> try rfl
    rename_i t
    simp only [evalA, getT]
    rw [h t (by
      unfold looksAt Oper.looksAt
      rw [List.mem_append]
      left
      rw [List.mem_filterMap]
      exact ⟨_, hx, rfl⟩)]
  · unfold wantedA
    cases hg : o.guard with
    | none => rfl
    | some gw =>
      obtain ⟨j, want⟩ := gw
      simp only
      cases hd : (ops[j]?).bind (·.dst) with
      | none => rfl
      | some d =>
        simp only
        rw [h d (by
          unfold looksAt Oper.looksAt
          rw [List.mem_append]
          right
          simp [hg, hd])]

theorem hide_eq {T : Tr AV} {o : Oper} (h : ∀ t ∈ looksAt ops o, t ∉ D) : ∀ t ∈ looksAt ops o, T.get t = (hide D T).get t := by
  intro t ht
  rw [hide_get, if_neg (h t ht)]

theorem notEff_callee {o : Op} (h : isEff o = false) (T : Tr AV) : callee o T = none := by
  cases o <;> try rfl
  rename_i c
  simp only [isEff] at h
  simp only [callee]
  split
  · rename_i f hf
    simp [hf] at h
  · rfl

include hE
/-- One that is no effect and whose answer is known. -/
theorem owed_sound {o : Oper} {s : St} {nx0 : Nat} {y : AV} {H' : Heap} {nx' : Nat} (h : evalR E ops o s nx0 = some (y, H', nx')) (he : isEff o.op = false) (hn : ¬ U nx0) {a : Act} (hT : TRD ρ s.H U w D s.T a.tmps) (hl : ∀ t ∈ looksAt ops o, t ∉ D) (R : Rel ρ s.H U w)
    {K : Act → World → Prop} {Q : Exit → Act → World → Prop}
    (hK : ∀ v w' ρ' U', RV ρ' H' U' w' y v → Rel ρ' H' U' w' → Ext ρ s.H U w ρ' H' U' w' → Grow U nx0 U' nx' → K (a.put o.dst v) w') :
    if Region.wanted o (yielded ops a.tmps) then o.wpIn (Fz r) 0 P a w K Q else (∀ f, o.about P w a.eval = some f → (Fz r).fn f) ∧ K (a.put o.dst undef) w := by
  obtain ⟨e1, e2⟩ := evalA_eq (hide_eq (T := s.T) hl)
  have hT0 := hT.hide
  unfold evalR at h
  rw [e2] at h
  split at h
  · rename_i hw
    rw [wantedA_sound hT0 hw, if_pos rfl]
    refine ⟨fun _ _ => trivial, ?_⟩
    rw [operA_congr E o.op e1] at h
    obtain ⟨⟨U', ⟨n, w', ρ', v, g1, g2, k1, k2, k3⟩, k4⟩, g3⟩ := operA_sound hE hn h hT0 R
    rw [Oper.semAt_eq _ _ _ g3, g1]
    rcases g2 with rfl | ⟨rfl, rfl⟩
    · exact hK v w' ρ' U' k1 k2 k3 k4
    · exact hK _ w' ρ' U' k1 k2 k3 k4
  · rename_i hw
    cases h
    rw [wantedA_sound hT0 hw, if_neg (by simp)]
    refine ⟨fun _ _ => trivial, ?_⟩
    exact hK _ w ρ U (by simp only [RV]; exact ⟨#[], rfl, by simp only [RVs]⟩) R (Ext.refl _ _ _ _) (Grow.refl _ _)
  · cases h

include hc
/-- An effect. -/
theorem opA_part {o : Oper} {s s' : St} (h : opA E call nt ops o s = some s') {a : Act} (hT : TRD ρ s.H U w D s.T a.tmps) (hl : ∀ t ∈ looksAt ops o, t ∉ D) (R : Rel ρ s.H U w) (B : Bound U s.nx) (hs : a.tmps.size = nt) (hd : a.defers = df)
    {K : Act → World → Prop} {Q : Exit → Act → World → Prop}
    (hK : ∀ a' w' ρ' U', TRD ρ' s'.H U' w' D s'.T a'.tmps → Rel ρ' s'.H U' w' → Bound U' s'.nx → a'.tmps.size = nt → a'.defers = df → Ext ρ s.H U w ρ' s'.H U' w' → Grow U s.nx U' s'.nx → K a' w') :
    if Region.wanted o (yielded ops a.tmps) then o.wpIn (Fz r) 0 P a w K Q else (∀ f, o.about P w a.eval = some f → (Fz r).fn f) ∧ K (a.put o.dst undef) w := by
  obtain ⟨e1, e2⟩ := evalA_eq (hide_eq (T := s.T) hl)
  have hT0 := hT.hide
  -- the same, of what is there
  have key : ∀ (x : AV) (T' : Tr AV), putA nt s.T o.dst x = some T' → ∃ T0', putA nt (hide D s.T) o.dst x = some T0' ∧ ∀ t, t ∉ D → T'.get t = T0'.get t := by
    intro x T' hp
    unfold putA at hp ⊢
    cases hdst : o.dst with
    | none =>
      simp only [hdst, Option.some.injEq] at hp
      subst hp
      exact ⟨_, rfl, fun t ht => by rw [hide_get, if_neg ht]⟩
    | some d =>
      simp only [hdst] at hp ⊢
      cases hb : Nat.ble (d + 1) nt with
      | false => simp only [hb, cond_false, reduceCtorEq] at hp
      | true =>
        simp only [hb, cond_true] at hp ⊢
        cases hp
        refine ⟨_, rfl, fun t ht => ?_⟩
        rw [Tr.get_set, Tr.get_set, hide_get, if_neg ht]
  have main : ∃ s0', opA E call nt ops o ⟨hide D s.T, s.H, s.nx⟩ = some s0' ∧ s0'.H = s'.H ∧ s0'.nx = s'.nx ∧ ∀ t, t ∉ D → s'.T.get t = s0'.T.get t := by
    unfold opA at h ⊢
    simp only
    rw [← e2, ← callee_congr o.op e1, ← operA_congr E o.op e1]
    split at h
    · split at h
      case h_2 => cases h
      rename_i x H' nx' hx
      split at h <;> cases h
      rename_i T' hp
      obtain ⟨T0', g1, g2⟩ := key x T' hp
      simp only [g1]
      exact ⟨_, rfl, rfl, rfl, g2⟩
    · split at h <;> cases h
      rename_i T' hp
      obtain ⟨T0', g1, g2⟩ := key (.tup []) T' hp
      simp only [g1]
      exact ⟨_, rfl, rfl, rfl, g2⟩
    · cases h
  obtain ⟨s0', g1, g2, g3, g4⟩ := main
  have S0 : SR ρ U nt df ⟨hide D s.T, s.H, s.nx⟩ a w := ⟨hT0, R, B, hs, hd⟩
  exact opA_sound hE hc g1 S0 fun a' w' ρ' U' S' X G => by
    refine hK a' w' ρ' U' (fun t x hx ht => ?_) (g2 ▸ S'.rel) (g3 ▸ S'.bound) S'.size S'.defers (g2 ▸ X) (g3 ▸ G)
    rw [g4 t ht] at hx
    have := S'.tr t x hx
    rw [g2] at this
    exact this
end
end Go.Cl
