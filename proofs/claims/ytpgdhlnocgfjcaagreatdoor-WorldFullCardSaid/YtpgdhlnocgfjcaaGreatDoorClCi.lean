/- Each operation is sound: composite values, new slices. -/
import Derived.Test.YtpgdhlnocgfjcaaGreatDoorClCh
import Derived.Deep.AppendSrc
import Derived.Laws.MakeOwn
import Derived.Great.BuildSlice
set_option linter.unusedSimpArgs false
set_option linter.unusedVariables false
set_option linter.unusedSectionVars false
namespace Go.Cl

theorem foldl_splice (off : Nat) : ∀ (xs : List Value) (k : Nat) (cs : Array Value), off + k + xs.length ≤ cs.size →
    ((xs.zipIdx k).foldl (fun (cs : Array Value) (p : Value × Nat) => cs.setIfInBounds (off + p.2) p.1) cs).toList = splice cs.toList (off + k) xs
  | [], k, cs, _ => by simp [splice]
  | v :: rest, k, cs, h => by
    simp only [List.zipIdx_cons, List.foldl_cons]
    rw [foldl_splice off rest (k + 1) _ (by simp at h ⊢; omega)]
    have e := list_seg_step cs.toList (off + k) v rest (by simp at h ⊢; omega)
    simpa [splice, Array.toList_setIfInBounds, Nat.add_assoc] using e

section
variable {P : Program} {E : Env} (hE : E.Ok P) {ρ : Nat → Loc} {H : Heap} {U : Gh} {w : World}

/-- The parts of a composite value. -/
def PVs (ρ : Nat → Loc) (H : Heap) (U : Gh) (w : World) : List (Nat × AV) → List (Nat × Value) → Prop
  | [], vs => vs = []
  | p :: ps, vs => ∃ v r, vs = (p.1, v) :: r ∧ RV ρ H U w p.2 v ∧ PVs ρ H U w ps r

theorem RVs_splice {xs cs : List AV} {vs us : List Value} {o : Nat} (h : RVs ρ H U w xs vs) (k : RVs ρ H U w cs us) (hf : o + cs.length ≤ xs.length) : RVs ρ H U w (splice xs o cs) (splice vs o us) := by
  obtain ⟨h1, h2⟩ := RVs_iff.1 h
  obtain ⟨k1, k2⟩ := RVs_iff.1 k
  refine RVs_iff.2 ⟨by rw [splice_length hf, splice_length (by omega)]; exact h1, fun j x hj => ?_⟩
  rw [splice_row hf] at hj
  have e := getElem?_mid vs o us (by omega) j
  unfold splice
  rw [e]
  split at hj
  · rename_i c; rw [if_pos c]; exact h2 j x hj
  · rename_i c
    rw [if_neg c]
    split at hj
    · rename_i c2; rw [if_pos (by omega)]; exact k2 _ x hj
    · rename_i c2; rw [if_neg (by omega)]; exact h2 j x hj

theorem cellsA_rel {x : AV} {v : Value} (h : RV ρ H U w x v) (hl : x.leaf = true ∨ ∃ cs, x = .agg cs) : RVs ρ H U w x.cells v.cells.toList := by
  rcases hl with hl | ⟨cs, rfl⟩
  · have e : x.cells = [x] := by cases x <;> simp_all [AV.cells, AV.leaf]
    rw [e, cells_of_oneCell (oneCell_of_leaf hl h)]
    exact ⟨v, [], rfl, h, rfl⟩
  · simp only [RV] at h
    obtain ⟨us, rfl, hr⟩ := h
    exact hr

theorem fill_sound (place : Nat → Option (Nat × Nat)) : ∀ (parts : List (Nat × AV)) (vparts : List (Nat × Value)) (cells cells' : List AV) (cs : Array Value),
    fillA place cells parts = some cells' → RVs ρ H U w cells cs.toList → PVs ρ H U w parts vparts → (∀ p ∈ parts, p.2.cells.all AV.leaf = true) → ∃ cs', Instr.fill place cs vparts = some cs' ∧ RVs ρ H U w cells' cs'.toList
  | [], vparts, cells, cells', cs, h, hc, hp, _ => by
    simp only [PVs] at hp
    subst hp
    simp only [fillA, Option.some.injEq] at h
    subst h
    exact ⟨cs, rfl, hc⟩
  | (i, x) :: parts, vparts, cells, cells', cs, h, hc, hp, hl => by
    simp only [PVs] at hp
    obtain ⟨v, r, rfl, hx, hr⟩ := hp
    simp only [fillA] at h
    cases hpl : place i with
    | none => simp [hpl] at h
    | some os =>
      obtain ⟨off, size⟩ := os
      simp only [hpl] at h
      cases hb : (Nat.beq x.cells.length size && Nat.ble (off + size) cells.length) with
      | false => rw [hb, cond_false] at h; cases h
      | true =>
        rw [hb, cond_true] at h
        simp only [Bool.and_eq_true] at hb
        have c1 := beqT hb.1
        have c2 := bleT hb.2
        have hxs := RVs_cells (hl (i, x) (by simp)) hx
        have e1 := RVs_length hxs
        have e2 := RVs_length hc
        simp only [Array.length_toList] at e1 e2
        have hfold := foldl_splice off v.cells.toList 0 cs (by simp; omega)
        obtain ⟨cs', h1, h2⟩ := fill_sound place parts r (splice cells off x.cells) cells' ((v.cells.toList.zipIdx 0).foldl (fun (cs : Array Value) (p : Value × Nat) => cs.setIfInBounds (off + p.2) p.1) cs) h (by rw [hfold]; exact RVs_splice hc hxs (by omega)) hr (fun p hp => hl p (by simp [hp]))
        refine ⟨cs', ?_, h2⟩
        have n1 : ¬ (v.cells.size ≠ size) := by omega
        have n2 : ¬ (off + v.cells.size > cs.size) := by omega
        have e3 : v.cells.zipIdx.foldl (fun (cs : Array Value) (p : Value × Nat) => cs.setIfInBounds (off + p.2) p.1) cs = (v.cells.toList.zipIdx 0).foldl (fun (cs : Array Value) (p : Value × Nat) => cs.setIfInBounds (off + p.2) p.1) cs := by
          rw [← Array.foldl_toList, Array.toList_zipIdx]
        simp only [Instr.fill, hpl]
        rw [if_neg (by simp; omega)]
        rw [← h1]
        congr 1

include hE
theorem build_sound {t : Nat} {parts : List (Nat × AV)} {y : AV} (h : buildA E t parts = some y) {vparts : Array (Nat × Value)} (hp : PVs ρ H U w parts vparts.toList) :
    ∃ u, (Instr.build t vparts).run P w = .ok u w ∧ RV ρ H U w y u := by
  unfold buildA at h
  split at h
  case h_2 => cases h
  rename_i ti hti
  have ht := hE.ty _ _ hti
  obtain ⟨i, d, h1, h2, h3, h4, h5, h6⟩ := tiOf_some ht
  split at h
  · rename_i fs hfs
    cases hb : (Nat.beq ti.zero.length ti.size && Nat.ble 1 ti.size && (fs.all fun f => (E.ty.get f.2).isSome) && parts.all fun p => p.2.cells.all AV.leaf) with
    | false => rw [hb, cond_false] at h; cases h
    | true =>
      rw [hb, cond_true] at h
      simp only [Bool.and_eq_true] at hb
      obtain ⟨⟨⟨hb1, hb2⟩, hb3⟩, hb4⟩ := hb
      obtain ⟨fields, hu, hfe⟩ := und_st ht hfs
      cases hzero : i.zero with
      | none =>
        rw [hzero] at h5
        simp only at h5
        rw [h5] at hb1
        have := beqT hb1
        have := bleT hb2
        simp at *
        omega
      | some z =>
        rw [hzero] at h5
        simp only at h5
        cases hf : fillA (placeOf E fs) ti.zero parts with
        | none => simp [hf] at h
        | some cells' =>
          simp only [hf, Option.map_some, Option.some.injEq] at h
          subst h
          obtain ⟨cs', g1, g2⟩ := fill_sound (ρ := ρ) (H := H) (U := U) (w := w) (placeOf E fs) parts vparts.toList ti.zero cells' z.cells hf (by rw [h5]; exact of1s_rel _) hp (fun p hp => by simpa using List.all_eq_true.1 hb4 p hp)
          refine ⟨.agg cs', run_build w t vparts cs' ?_, ?_⟩
          · have hplaces : ∀ (gs : List Field), (gs.all fun f => (E.ty.get f.type).isSome) = true → ∃ places, gs.mapM (fun f => (P.info? f.type).map fun i => (f.offset, i.size)) = some places ∧ ∀ j : Nat, places[j]? = placeOf E (gs.map fun f => (f.offset, f.type)) j := by
              intro gs
              induction gs with
              | nil => intro _; exact ⟨[], rfl, by simp [placeOf]⟩
              | cons g gs ih =>
                intro hall
                simp only [List.all_cons, Bool.and_eq_true] at hall
                obtain ⟨places, p1, p2⟩ := ih hall.2
                obtain ⟨fi, hfi⟩ := Option.isSome_iff_exists.1 hall.1
                obtain ⟨gi, gd, q1, q2, q3, -⟩ := tiOf_some (hE.ty _ _ hfi)
                refine ⟨(g.offset, gi.size) :: places, by simp [List.mapM_cons, q1, p1], fun j => ?_⟩
                cases j with
                | zero => simp [placeOf, hfi, q3]
                | succ j => simpa [placeOf] using p2 j
            obtain ⟨places, p1, p2⟩ := hplaces fields.toList (by rw [hfe] at hb3; simpa [List.all_map, Function.comp_def] using hb3)
            have hplace : (places.toArray[·]?) = placeOf E fs := by
              funext j
              rw [hfe]
              simpa using p2 j
            unfold Program.built
            rw [h1, hu]
            simp only [hzero, p1]
            rw [hplace]
            exact g1
          · simp only [RV]
            exact ⟨cs', rfl, g2⟩
  · rename_i n e hd
    split at h
    case h_2 => cases h
    rename_i ei hei
    cases hb : (Nat.beq ti.zero.length ti.size && Nat.ble 1 ti.size && parts.all fun p => p.2.cells.all AV.leaf) with
    | false => rw [hb, cond_false] at h; cases h
    | true =>
      rw [hb, cond_true] at h
      simp only [Bool.and_eq_true] at hb
      obtain ⟨⟨hb1, hb2⟩, hb4⟩ := hb
      obtain ⟨ii, dd, q1, q2, q3, -⟩ := tiOf_some (hE.ty _ _ hei)
      cases hzero : i.zero with
      | none =>
        rw [hzero] at h5
        simp only at h5
        rw [h5] at hb1
        have := beqT hb1
        have := bleT hb2
        simp at *
        omega
      | some z =>
        rw [hzero] at h5
        simp only at h5
        cases hf : fillA (fun i => some (i * ei.size, ei.size)) ti.zero parts with
        | none => simp [hf] at h
        | some cells' =>
          simp only [hf, Option.map_some, Option.some.injEq] at h
          subst h
          obtain ⟨cs', g1, g2⟩ := fill_sound (ρ := ρ) (H := H) (U := U) (w := w) _ parts vparts.toList ti.zero cells' z.cells hf (by rw [h5]; exact of1s_rel _) hp (fun p hp => by simpa using List.all_eq_true.1 hb4 p hp)
          refine ⟨.agg cs', run_build w t vparts cs' ?_, ?_⟩
          · unfold Program.built
            rw [h1, und_arr ht hd]
            simp only [hzero, q1]
            rw [← q3]
            exact g1
          · simp only [RV]
            exact ⟨cs', rfl, g2⟩
  · cases h

end
end Go.Cl
