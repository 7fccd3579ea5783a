/- Each operation is sound: slicing, composite values, make, append, copy, clear. -/
import Derived.Test.YtpgdhlnocgfjcaaGreatDoorClCg
set_option linter.unusedSimpArgs false
set_option linter.unusedVariables false
set_option linter.unusedSectionVars false
namespace Go.Cl

/-- Bounds that may be left out. -/
def ORV (ρ : Nat → Loc) (H : Heap) (U : Gh) (w : World) : Option AV → Option Value → Prop
  | none, none => True
  | some x, some v => RV ρ H U w x v
  | _, _ => False

section
variable {P : Program} {E : Env} (hE : E.Ok P) {ρ : Nat → Loc} {H : Heap} {U : Gh} {w : World}

theorem boundA_cases {d n : Nat} {b : Option AV} {vb : Option Value} (h : boundA d b = some n) (hv : ORV ρ H U w b vb) : (b = none ∧ vb = none ∧ n = d) ∨ ∃ k, vb = some (.int k (n : Int)) := by
  cases b with
  | none =>
    simp only [boundA, Option.some.injEq] at h
    cases vb with
    | none => exact .inl ⟨rfl, rfl, h.symm⟩
    | some v => exact hv.elim
  | some x =>
    right
    unfold boundA at h
    split at h
    · rename_i e; cases e
    · rename_i k m e
      cases e
      cases h
      cases vb with
      | none => exact hv.elim
      | some v =>
        simp only [ORV, RV] at hv
        subst hv
        exact ⟨k, rfl⟩
    · cases h

theorem sliceBounds_sound {isS : Bool} {len cap l h : Nat} {lo hi : Option AV} {vlo vhi : Option Value} (h1 : boundA 0 lo = some l) (h2 : boundA len hi = some h) (v1 : ORV ρ H U w lo vlo) (v2 : ORV ρ H U w hi vhi) (hl : l ≤ h) (hh : h ≤ cap) :
    (Instr.sliceBounds isS len cap vlo vhi none).run P w = .ok (l, h, cap) w := by
  rcases boundA_cases h1 v1 with ⟨-, rfl, rfl⟩ | ⟨k1, rfl⟩ <;> rcases boundA_cases h2 v2 with ⟨-, rfl, rfl⟩ | ⟨k2, rfl⟩
  · simp [Instr.sliceBounds]
  · simp [Instr.sliceBounds, Instr.sliceBound, asIntOf, hh]
  · simp [Instr.sliceBounds, Instr.sliceBound, asIntOf, hl]
  · simp [Instr.sliceBounds, Instr.sliceBound, asIntOf, hl, hh]

theorem extract_bytes (s : List UInt8) (l h : Nat) : (⟨s.toArray⟩ : ByteArray).extract l h = ⟨((s.drop l).take (h - l)).toArray⟩ := by
  apply ByteArray.ext
  rw [ByteArray.data_extract]
  simp [List.extract_eq_take_drop]

theorem bsize (s : List UInt8) : (⟨s.toArray⟩ : ByteArray).size = s.length := by simp [ByteArray.size]

/-- 'all noughts' -/
theorem sliceBounds3_sound {len cap : Nat} {lo hi : Option AV} {m : AV} {vlo vhi : Option Value} {vm : Value} (h1 : boundA 0 lo = some 0) (h2 : boundA 0 hi = some 0) (h3 : boundA 0 (some m) = some 0) (hne : hi ≠ none) (v1 : ORV ρ H U w lo vlo) (v2 : ORV ρ H U w hi vhi) (v3 : RV ρ H U w m vm) :
    (Instr.sliceBounds true len cap vlo vhi (some vm)).run P w = .ok (0, 0, 0) w := by
  obtain ⟨k3, e3⟩ : ∃ k, some vm = some (.int k ((0 : Nat) : Int)) := by
    rcases boundA_cases (vb := some vm) h3 v3 with ⟨e, -, -⟩ | h
    · cases e
    · exact h
  cases e3
  rcases boundA_cases h2 v2 with ⟨e, -, -⟩ | ⟨k2, rfl⟩
  · exact absurd e hne
  rcases boundA_cases h1 v1 with ⟨-, rfl, -⟩ | ⟨k1, rfl⟩
  · simp [Instr.sliceBounds, Instr.sliceBound, asIntOf]
  · simp [Instr.sliceBounds, Instr.sliceBound, asIntOf]

include hE
theorem slice_sound {t : Nat} {x y : AV} {lo hi mx : Option AV} (h : sliceA E t x lo hi mx H = some y) (R : Rel ρ H U w) {v : Value} {vlo vhi vmx : Option Value} (hx : RV ρ H U w x v) (v1 : ORV ρ H U w lo vlo) (v2 : ORV ρ H U w hi vhi) (v3 : ORV ρ H U w mx vmx) :
    ∃ u, (Instr.sliceAt t v vlo vhi vmx).run P w = .ok u w ∧ RV ρ H U w y u := by
  unfold sliceA at h
  split at h
  case h_2 => cases h
  rename_i ti l hti hlo
  have ht := hE.ty _ _ hti
  split at h
  · -- a string
    rename_i s hd
    split at h
    case h_2 => cases h
    rename_i hh hhi
    cases hb : (Nat.ble l hh && Nat.ble hh s.length) with
    | false => rw [hb, cond_false] at h; cases h
    | true =>
      rw [hb, cond_true] at h
      cases h
      simp only [Bool.and_eq_true] at hb
      cases vmx with
      | some _ => exact v3.elim
      | none =>
        simp only [RV] at hx ⊢
        subst hx
        have := sliceBounds_sound (P := P) (isS := false) (w := w) (cap := s.length) hlo hhi v1 v2 (bleT hb.1) (bleT hb.2)
        refine ⟨_, ?_, rfl⟩
        simp [Instr.sliceAt, Instr.slice, run_underlying (und_str ht hd), bsize, this, extract_bytes]
  · -- nil
    rename_i e hd
    split at h
    case h_2 => cases h
    rename_i hh ei hhi hei
    cases hb : (Nat.beq l 0 && Nat.beq hh 0) with
    | false => rw [hb, cond_false] at h; cases h
    | true =>
      rw [hb, cond_true] at h
      cases h
      simp only [Bool.and_eq_true] at hb
      have e1 := beqT hb.1
      have e2 := beqT hb.2
      subst e1; subst e2
      cases vmx with
      | some _ => exact v3.elim
      | none =>
        simp only [RV] at hx ⊢
        subst hx
        have := sliceBounds_sound (P := P) (isS := true) (w := w) (cap := 0) hlo hhi v1 v2 (Nat.le_refl _) (Nat.le_refl _)
        refine ⟨_, ?_, rfl⟩
        simp [Instr.sliceAt, Instr.slice, run_underlying (und_sl ht hd), this, run_sizeOf' (hE.ty _ _ hei)]
  · -- a frozen one
    rename_i e sz rows hd
    split at h
    case h_2 => cases h
    rename_i hh ei hhi hei
    cases hb : (Nat.ble l hh && Nat.ble hh rows.length && Nat.beq ei.size sz) with
    | false => rw [hb, cond_false] at h; cases h
    | true =>
      rw [hb, cond_true] at h
      cases h
      simp only [Bool.and_eq_true] at hb
      have c1 := bleT hb.1.1
      have c2 := bleT hb.1.2
      have c3 := beqT hb.2
      cases vmx with
      | some _ => exact v3.elim
      | none =>
        simp only [RV] at hx ⊢
        obtain ⟨hs, a, c, rfl, hc, hr⟩ := hx
        have := sliceBounds_sound (P := P) (isS := true) (w := w) (cap := c) hlo hhi v1 v2 c1 (by omega)
        refine ⟨.slice (if c = l then a else a.map (·.add (l * ei.size))) (hh - l) (c - l), ?_, hs, (if c = l then a else a.map (·.add (l * ei.size))), c - l, ?_, ?_, ?_⟩
        · simp [Instr.sliceAt, Instr.slice, run_underlying (und_sl ht hd), this, run_sizeOf' (hE.ty _ _ hei)]
        · simp
          omega
        · simp
          omega
        · intro hne
          have hlt : l < hh := by
            rcases Nat.lt_or_ge l hh with h | h
            · exact h
            · exfalso
              apply hne
              rw [show hh - l = 0 by omega]
              rfl
          obtain ⟨b, o, rfl, k1, k2, k3⟩ := hr (by intro e; rw [e] at c2; simp at c2; omega)
          refine ⟨b, o + l * sz, ?_, k1, k2, ?_⟩
          · rw [if_neg (by omega)]
            simp [add_none, c3]
          · rw [RRs_iff] at k3 ⊢
            intro r row hrow
            rw [List.getElem?_take] at hrow
            split at hrow
            · rw [List.getElem?_drop] at hrow
              have := k3 (l + r) row hrow
              rwa [show o + (l + r) * sz = o + l * sz + r * sz by rw [Nat.add_mul]; omega] at this
            · cases hrow
  · -- one of the heap
    rename_i e i r n hd
    split at h
    case h_2 => cases h
    rename_i hh sz rs ei hhi hg hei
    cases hb : (Nat.ble l hh && Nat.ble (r + hh) rs.length && Nat.beq ei.size sz) with
    | false => rw [hb, cond_false] at h; cases h
    | true =>
      rw [hb, cond_true] at h
      simp only [Bool.and_eq_true] at hb
      have c1 := bleT hb.1.1
      have c2 := bleT hb.1.2
      have c3 := beqT hb.2
      cases vmx with
      | some _ => exact v3.elim
      | none =>
        simp only [RV] at hx
        obtain ⟨hi', a, c, rfl, hc, ha⟩ := hx
        obtain ⟨ha1, cs, t', fr, hh1, hcap⟩ := ha sz rs hg
        obtain ⟨_, _, hs, cs', t'', fr', hh2, hfz, hfit, hrs⟩ := R.obj i _ hi' hg
        rw [hh1] at hh2
        cases hh2
        have hcap' : rs.length ≤ r + c := by
          have : rs.length * sz ≤ (r + c) * sz := by omega
          exact Nat.le_of_mul_le_mul_right this hs
        have := sliceBounds_sound (P := P) (isS := true) (w := w) (cap := c) hlo hhi v1 v2 c1 (by omega)
        refine ⟨.slice (if c = l then some a else (some a).map (·.add (l * ei.size))) (hh - l) (c - l), ?_, ?_⟩
        · simp [Instr.sliceAt, Instr.slice, run_underlying (und_sl ht hd), this, run_sizeOf' (hE.ty _ _ hei)]
        cases hb2 : (Nat.beq l hh && !Nat.beq l 0) with
        | true =>
          rw [hb2, cond_true] at h
          cases h
          simp only [Bool.and_eq_true] at hb2
          have e1 := beqT hb2.1
          simp only [RV]
          refine ⟨hs, (if c = l then some a else (some a).map (·.add (l * ei.size))), c - l, ?_, Nat.zero_le _, fun hne => absurd rfl hne⟩
          rw [show hh - l = 0 by omega]
          rfl
        | false =>
          rw [hb2, cond_false] at h
          cases h
          simp only [RV]
          by_cases hl0 : l = 0
          · subst hl0
            refine ⟨hi', a, c - 0, ?_, by omega, fun sz' rs' hg' => ?_⟩
            · split
              · rfl
              · rw [ha1]; simp [add_none]
            · rw [hg] at hg'
              cases hg'
              exact ⟨by simpa using ha1, cs, t', fr, hh1, by simpa using hcap⟩
          · have hlt : l < hh := by
              rcases Nat.lt_or_ge l hh with h | h
              · exact h
              · exfalso
                have : l = hh := by omega
                subst this
                rw [beq_true, beq_false hl0] at hb2
                cases hb2
            refine ⟨hi', a.add (l * ei.size), c - l, ?_, by omega, fun sz' rs' hg' => ?_⟩
            · rw [if_neg (by omega)]; rfl
            · rw [hg] at hg'
              cases hg'
              refine ⟨?_, cs, t', fr, hh1, ?_⟩
              · rw [ha1, add_none, c3, Nat.add_mul]; simp [Nat.add_assoc]
              · rw [show r + l + (c - l) = r + c by omega]; exact hcap
  · -- nothing, and no room
    rename_i e m hd
    split at h
    case h_2 => cases h
    rename_i hi0 hh m' ei hhi hm hei
    have hx1 := hei; have hx2 := hhi; have hx3 := hm; clear hei hhi hm; have hhi := hx1; have hm := hx2; have hei := hx3; clear hx1 hx2 hx3
    cases hb : (Nat.beq l 0 && Nat.beq hh 0 && Nat.beq m' 0) with
    | false => rw [hb, cond_false] at h; cases h
    | true =>
      rw [hb, cond_true] at h
      simp only [Bool.and_eq_true] at hb
      have e1 := beqT hb.1.1
      have e2 := beqT hb.1.2
      have e3 := beqT hb.2
      subst e1; subst e2; subst e3
      cases vmx with
      | none => exact v3.elim
      | some vm =>
        skip
        · have hsb : ∀ len cap, (Instr.sliceBounds true len cap vlo vhi (some vm)).run P w = .ok (0, 0, 0) w := fun len cap => sliceBounds3_sound (P := P) (w := w) hlo hhi hm (by simp) v1 v2 v3
          split at h
          · cases h
            simp only [RV] at hx ⊢
            subst hx
            refine ⟨_, ?_, rfl⟩
            simp [Instr.sliceAt, Instr.slice, run_underlying (und_sl ht hd), hsb, run_sizeOf' (hE.ty _ _ hei)]
          · cases h
            simp only [RV] at hx ⊢
            obtain ⟨hs, a, c, rfl, hc, hr⟩ := hx
            exact ⟨.slice a 0 0, by simp [Instr.sliceAt, Instr.slice, run_underlying (und_sl ht hd), hsb, run_sizeOf' (hE.ty _ _ hei)], a, rfl⟩
          · cases h
            simp only [RV] at hx ⊢
            obtain ⟨hi', a, c, rfl, hc, ha⟩ := hx
            exact ⟨.slice (some a) 0 0, by simp [Instr.sliceAt, Instr.slice, run_underlying (und_sl ht hd), hsb, run_sizeOf' (hE.ty _ _ hei)], _, rfl⟩
          · cases h
            simp only [RV] at hx ⊢
            obtain ⟨a, rfl⟩ := hx
            exact ⟨.slice a 0 0, by simp [Instr.sliceAt, Instr.slice, run_underlying (und_sl ht hd), hsb, run_sizeOf' (hE.ty _ _ hei)], a, rfl⟩
          · cases h
  · cases h
end
end Go.Cl
