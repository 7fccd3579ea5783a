/- Laws of the relation: an object turns, comes, goes. -/
import Derived.Test.YtpgdhlnocgfjcaaGreatDoorClCd
set_option linter.unusedSimpArgs false
set_option linter.unusedVariables false
set_option linter.unusedSectionVars false
namespace Go.Cl

section
variable {ρ : Nat → Loc} {H : Heap} {U : Gh} {w : World}

/-- An object turns; no other block does. -/
theorem Ext.upd {w' : World} {i : Nat} {o o' : AO} (hU : U i) (hg : H.get i = some o)
    (hk : (∀ sz rs', o' = .rows sz rs' → (∃ rs, o = .rows sz rs) ∧ cellsIn w' (ρ i).b = cellsIn w (ρ i).b) ∧ (∀ es, o' = .map es → ∃ es0, o = .map es0))
    (hh : ∀ b, b ≠ (ρ i).b → w'.heap[b]? = w.heap[b]?) (hs : w'.heap.size = w.heap.size) (h1 : w'.os = w.os) (h2 : w'.tape = w.tape) (h3 : w'.output = w.output) (R : Rel ρ H U w) :
    Ext ρ H U w ρ (H.set i o') U w' := by
  refine ⟨⟨fun _ h => h, ?_, ?_, by omega, h1, h2, h3, rfl, rfl⟩, fun b hb => ⟨hh b (fun e => (R.priv b hb).2 i o hU hg e.symm), hb⟩⟩
  · intro j hj oj hoj
    rw [Tr.get_set] at hoj
    split at hoj
    · rename_i e
      subst e
      cases hoj
      exact ⟨o, hg, rfl, hk.1, hk.2⟩
    · rename_i hne
      have hb : (ρ j).b ≠ (ρ i).b := fun e => hne (R.inj j i oj o hj hU hoj hg e)
      refine ⟨oj, hoj, rfl, fun sz rs e => ⟨⟨rs, e⟩, ?_⟩, fun es e => ⟨es, e⟩⟩
      unfold cellsIn
      rw [hh _ hb]
  · intro b hb hm
    have hne : b ≠ (ρ i).b := fun e => hm (.inl ⟨i, o, hU, hg, e.symm⟩)
    refine ⟨hh b hne, ?_⟩
    rintro (⟨j, oj, hj, hoj, e⟩ | hp)
    rotate_left
    · exact hm (.inr hp)
    rw [Tr.get_set] at hoj
    split at hoj
    · rename_i e'; subst e'; exact hne e.symm
    · exact hm (.inl ⟨j, oj, hj, hoj, e⟩)

theorem Rel.upd {w' : World} {i : Nat} {o o' : AO} (R : Rel ρ H U w) (hU : U i) (hg : H.get i = some o) (E : Ext ρ H U w ρ (H.set i o') U w')
    (hh : ∀ b, b ≠ (ρ i).b → w'.heap[b]? = w.heap[b]?) (ho : ORel ρ (H.set i o') U w' (ρ i) o') : Rel ρ (H.set i o') U w' := by
  refine ⟨?_, ?_, ?_⟩
  · intro j oj hj hoj
    rw [Tr.get_set] at hoj
    split at hoj
    · rename_i e
      subst e
      cases hoj
      exact ⟨(R.obj j o hj hg).1, Nat.lt_of_lt_of_le (R.obj j o hj hg).2.1 E.size, ho⟩
    · rename_i hne
      obtain ⟨k1, k2, k3⟩ := R.obj j oj hj hoj
      have hb : (ρ j).b ≠ (ρ i).b := fun e => hne (R.inj j i oj o hj hU hoj hg e)
      exact ⟨k1, Nat.lt_of_lt_of_le k2 E.size, ORel.mono E.toExt0 (hh _ hb) oj k3⟩
  · intro j k oj ok uj uk hj hk e
    rw [Tr.get_set] at hj hk
    split at hj <;> split at hk
    · omega
    · rename_i e1 e2; subst e1; exact R.inj j k o ok uj uk hg hk e
    · rename_i e1 e2; subst e2; exact R.inj j k oj o uj uk hj hg e
    · exact R.inj j k oj ok uj uk hj hk e
  · intro b hb
    obtain ⟨p1, p2⟩ := R.priv b hb
    refine ⟨Nat.lt_of_lt_of_le p1 E.size, fun j oj uj hj => ?_⟩
    rw [Tr.get_set] at hj
    split at hj
    · rename_i e; subst e; exact p2 j o uj hg
    · exact p2 j oj uj hj

/-- An object goes: its block is nobody's from now on. -/
theorem Ext.del (i : Nat) : Ext ρ H U w ρ (H.del i) U w := by
  refine ⟨⟨fun _ h => h, ?_, ?_, Nat.le_refl _, rfl, rfl, rfl, rfl, rfl⟩, fun b hb => ⟨rfl, hb⟩⟩
  · intro j hj oj hoj
    rw [Tr.get_del] at hoj
    split at hoj
    · cases hoj
    · exact ⟨oj, hoj, rfl, fun sz rs e => ⟨⟨rs, e⟩, rfl⟩, fun es e => ⟨es, e⟩⟩
  · intro b hb hm
    refine ⟨rfl, ?_⟩
    rintro (⟨j, oj, uj, hoj, e⟩ | hp)
    rotate_left
    · exact hm (.inr hp)
    rw [Tr.get_del] at hoj
    split at hoj
    · cases hoj
    · exact hm (.inl ⟨j, oj, uj, hoj, e⟩)
theorem Rel.del (R : Rel ρ H U w) (i : Nat) : Rel ρ (H.del i) U w := by
  refine ⟨?_, ?_, ?_⟩
  · intro j oj uj hoj
    rw [Tr.get_del] at hoj
    split at hoj
    · cases hoj
    · obtain ⟨k1, k2, k3⟩ := R.obj j oj uj hoj
      exact ⟨k1, k2, ORel.mono (Ext.del (U := U) i).toExt0 rfl oj k3⟩
  · intro j k oj ok uj uk hj hk e
    rw [Tr.get_del] at hj hk
    split at hj
    · cases hj
    · split at hk
      · cases hk
      · exact R.inj j k oj ok uj uk hj hk e
  · intro b hb
    obtain ⟨p1, p2⟩ := R.priv b hb
    refine ⟨p1, fun j oj uj hj => ?_⟩
    rw [Tr.get_del] at hj
    split at hj
    · cases hj
    · exact p2 j oj uj hj

/-- Where the next object lies. -/
def atNew (ρ : Nat → Loc) (nx : Nat) (l : Loc) : Nat → Loc := fun j => if j = nx then l else ρ j
theorem atNew_new (ρ : Nat → Loc) (nx : Nat) (l : Loc) : atNew ρ nx l nx = l := if_pos rfl
theorem atNew_ne {nx j : Nat} (h : j ≠ nx) (l : Loc) : atNew ρ nx l j = ρ j := if_neg h

/-- An object comes, in a block that was not there. -/
theorem Ext.new {nx : Nat} (hn : ¬ U nx) {w' : World} {l : Loc} {o : AO} (R : Rel ρ H U w) (hl : w.heap.size ≤ l.b) (hh : ∀ b, b < w.heap.size → w'.heap[b]? = w.heap[b]?) (hs : w.heap.size ≤ w'.heap.size)
    (h1 : w'.os = w.os) (h2 : w'.tape = w.tape) (h3 : w'.output = w.output) : Ext ρ H U w (atNew ρ nx l) (H.set nx o) (Use nx U) w' := by
  refine ⟨⟨fun _ h => .inr h, ?_, ?_, hs, h1, h2, h3, rfl, rfl⟩, fun b hb => ⟨hh b (R.priv b hb).1, hb⟩⟩
  · intro j hj oj hoj
    have hne : j ≠ nx := fun e => hn (e ▸ hj)
    rw [Tr.get_set, if_neg hne] at hoj
    refine ⟨oj, hoj, atNew_ne hne l, fun sz rs e => ⟨⟨rs, e⟩, ?_⟩, fun es e => ⟨es, e⟩⟩
    unfold cellsIn
    rw [hh _ (R.obj j oj hj hoj).2.1]
  · intro b hb hm
    refine ⟨hh b hb, ?_⟩
    rintro (⟨j, oj, uj, hoj, e⟩ | hp)
    rotate_left
    · exact hm (.inr hp)
    rw [Tr.get_set] at hoj
    split at hoj
    · rename_i e'
      subst e'
      rw [atNew_new] at e
      omega
    · rename_i hne
      rw [atNew_ne hne] at e
      exact hm (.inl ⟨j, oj, uj.resolve_left hne, hoj, e⟩)

theorem Rel.new {nx : Nat} (hn : ¬ U nx) {w' : World} {l : Loc} {o : AO} (R : Rel ρ H U w) (E : Ext ρ H U w (atNew ρ nx l) (H.set nx o) (Use nx U) w') (hl : w.heap.size ≤ l.b) (hh : ∀ b, b < w.heap.size → w'.heap[b]? = w.heap[b]?) (hl' : l.b < w'.heap.size)
    (ho : ORel (atNew ρ nx l) (H.set nx o) (Use nx U) w' l o) : Rel (atNew ρ nx l) (H.set nx o) (Use nx U) w' := by
  refine ⟨?_, ?_, ?_⟩
  · intro j oj uj hoj
    rw [Tr.get_set] at hoj
    split at hoj
    · rename_i e
      subst e
      cases hoj
      rw [atNew_new]
      exact ⟨.inl rfl, hl', ho⟩
    · rename_i hne
      obtain ⟨k1, k2, k3⟩ := R.obj j oj (uj.resolve_left hne) hoj
      rw [atNew_ne hne]
      exact ⟨.inr k1, by have := E.size; omega, ORel.mono E.toExt0 (hh _ k2) oj k3⟩
  · intro j k oj ok uj uk hj hk e
    rw [Tr.get_set] at hj hk
    split at hj <;> split at hk
    · omega
    · rename_i e1 e2
      rw [e1, atNew_new, atNew_ne e2] at e
      have := (R.obj k ok (uk.resolve_left e2) hk).2.1
      omega
    · rename_i e1 e2
      rw [e2, atNew_new, atNew_ne e1] at e
      have := (R.obj j oj (uj.resolve_left e1) hj).2.1
      omega
    · rename_i e1 e2
      rw [atNew_ne e1, atNew_ne e2] at e
      exact R.inj j k oj ok (uj.resolve_left e1) (uk.resolve_left e2) hj hk e
  · intro b hb
    obtain ⟨p1, p2⟩ := R.priv b hb
    refine ⟨Nat.lt_of_lt_of_le p1 E.size, fun j oj uj hj => ?_⟩
    by_cases hne : j = nx
    · subst hne
      rw [atNew_new]
      omega
    · rw [Tr.get_set, if_neg hne] at hj
      rw [atNew_ne hne]
      exact p2 j oj (uj.resolve_left hne) hj

/-- An object goes, and another one comes, in its block, or in one that was not there. -/
theorem Ext.turn {nx : Nat} (hn : ¬ U nx) {w' : World} {i : Nat} {oi : AO} {l : Loc} {o : AO} (R : Rel ρ H U w) (hU : U i) (hg : H.get i = some oi) (hl : l.b = (ρ i).b ∨ w.heap.size ≤ l.b) (hh : ∀ b, b < w.heap.size → b ≠ (ρ i).b → w'.heap[b]? = w.heap[b]?) (hs : w.heap.size ≤ w'.heap.size)
    (h1 : w'.os = w.os) (h2 : w'.tape = w.tape) (h3 : w'.output = w.output) : Ext ρ H U w (atNew ρ nx l) ((H.del i).set nx o) (Use nx U) w' := by
  refine ⟨⟨fun _ h => .inr h, ?_, ?_, hs, h1, h2, h3, rfl, rfl⟩, fun b hb => ⟨hh b (R.priv b hb).1 (fun e => (R.priv b hb).2 i oi hU hg e.symm), hb⟩⟩
  · intro j hj oj hoj
    have hne : j ≠ nx := fun e => hn (e ▸ hj)
    rw [Tr.get_set, if_neg hne, Tr.get_del] at hoj
    split at hoj
    · cases hoj
    rename_i hji
    refine ⟨oj, hoj, atNew_ne hne l, fun sz rs e => ⟨⟨rs, e⟩, ?_⟩, fun es e => ⟨es, e⟩⟩
    unfold cellsIn
    rw [hh _ (R.obj j oj hj hoj).2.1 (fun e => hji (R.inj j i oj oi hj hU hoj hg e))]
  · intro b hb hm
    have hbi : b ≠ (ρ i).b := fun e => hm (.inl ⟨i, oi, hU, hg, e.symm⟩)
    refine ⟨hh b hb hbi, ?_⟩
    rintro (⟨j, oj, uj, hoj, e⟩ | hp)
    rotate_left
    · exact hm (.inr hp)
    rw [Tr.get_set] at hoj
    split at hoj
    · rename_i e'
      subst e'
      rw [atNew_new] at e
      rcases hl with hl | hl <;> omega
    · rename_i hne
      rw [Tr.get_del] at hoj
      split at hoj
      · cases hoj
      rw [atNew_ne hne] at e
      exact hm (.inl ⟨j, oj, uj.resolve_left hne, hoj, e⟩)

theorem Rel.turn {nx : Nat} (hn : ¬ U nx) {w' : World} {i : Nat} {oi : AO} {l : Loc} {o : AO} (R : Rel ρ H U w) (hU : U i) (hg : H.get i = some oi) (E : Ext ρ H U w (atNew ρ nx l) ((H.del i).set nx o) (Use nx U) w') (hl : l.b = (ρ i).b ∨ w.heap.size ≤ l.b) (hh : ∀ b, b < w.heap.size → b ≠ (ρ i).b → w'.heap[b]? = w.heap[b]?) (hl' : l.b < w'.heap.size)
    (ho : ORel (atNew ρ nx l) ((H.del i).set nx o) (Use nx U) w' l o) : Rel (atNew ρ nx l) ((H.del i).set nx o) (Use nx U) w' := by
  have key : ∀ j oj, Use nx U j → j ≠ nx → ((H.del i).set nx o).get j = some oj → H.get j = some oj ∧ (ρ j).b ≠ (ρ i).b ∧ (ρ j).b < w.heap.size := by
    intro j oj uj hne hoj
    rw [Tr.get_set, if_neg hne, Tr.get_del] at hoj
    split at hoj
    · cases hoj
    · rename_i hji
      exact ⟨hoj, fun e => hji (R.inj j i oj oi (uj.resolve_left hne) hU hoj hg e), (R.obj j oj (uj.resolve_left hne) hoj).2.1⟩
  refine ⟨?_, ?_, ?_⟩
  · intro j oj uj hoj
    by_cases hne : j = nx
    · subst hne
      rw [Tr.get_set, if_pos rfl] at hoj
      cases hoj
      rw [atNew_new]
      exact ⟨.inl rfl, hl', ho⟩
    · obtain ⟨k0, kb, k2⟩ := key j oj uj hne hoj
      obtain ⟨k1, _, k3⟩ := R.obj j oj (uj.resolve_left hne) k0
      rw [atNew_ne hne]
      exact ⟨.inr k1, by have := E.size; omega, ORel.mono E.toExt0 (hh _ k2 kb) oj k3⟩
  · intro j k oj ok uj uk hj hk e
    by_cases e1 : j = nx <;> by_cases e2 : k = nx
    · omega
    · obtain ⟨k0, kb, k2⟩ := key k ok uk e2 hk
      rw [e1, atNew_new, atNew_ne e2] at e
      rcases hl with hl | hl
      · exact absurd (e.symm.trans hl) kb
      · omega
    · obtain ⟨k0, kb, k2⟩ := key j oj uj e1 hj
      rw [e2, atNew_new, atNew_ne e1] at e
      rcases hl with hl | hl
      · exact absurd (e.trans hl) kb
      · omega
    · obtain ⟨k0, _, _⟩ := key j oj uj e1 hj
      obtain ⟨k0', _, _⟩ := key k ok uk e2 hk
      rw [atNew_ne e1, atNew_ne e2] at e
      exact R.inj j k oj ok (uj.resolve_left e1) (uk.resolve_left e2) k0 k0' e
  · intro b hb
    obtain ⟨p1, p2⟩ := R.priv b hb
    refine ⟨Nat.lt_of_lt_of_le p1 E.size, fun j oj uj hj => ?_⟩
    by_cases hne : j = nx
    · subst hne
      rw [atNew_new]
      rcases hl with hl | hl
      · rw [hl]; exact p2 i oi hU hg
      · omega
    · rw [atNew_ne hne]
      exact p2 j oj (uj.resolve_left hne) (key j oj uj hne hj).1

/-! ### Writing cells -/
theorem heap_setRow_ne (w : World) {g b : Nat} (h : b ≠ g) (cs : Array Value) : (w.setRow g cs).heap[b]? = w.heap[b]? := by
  simp only [World.setRow, Array.getElem?_modify]
  rw [if_neg (fun e => h e.symm)]
theorem size_setRow (w : World) (g : Nat) (cs : Array Value) : (w.setRow g cs).heap.size = w.heap.size := by simp [World.setRow]

theorem run_storeCells_fz (P : Program) (g o : Nat) (t : TypeId) (fz : Nat × Nat) : ∀ (vs : List Value) (i : Nat) (cur : Array Value) (w : World), w.heap[g]? = some (.cells cur t fz) → Clear fz cur.size → o + i + vs.length ≤ cur.size → (∀ v ∈ vs, v.oneCell' = true) →
    (storeCells ⟨g, o, none⟩ vs i).run P w = .ok () (w.setRow g (cur.toList.take (o + i) ++ vs ++ cur.toList.drop (o + i + vs.length)).toArray)
  | [], i, cur, w, hg, _, _, _ => by
    simp only [storeCells, List.append_nil, List.length_nil, Nat.add_zero, List.take_append_drop, Array.toArray_toList]
    rw [setRow_self w g cur t fz hg]
    rfl
  | v :: rest, i, cur, w, hg, hfz, hl, h1 => by
    have hi : o + i < cur.size := by simp at hl; omega
    have hadd : (⟨g, o, none⟩ : Addr).add i = ⟨g, o + i, none⟩ := add_none g o i
    have hcell : w.cell? ⟨g, o + i, none⟩ = some cur[o + i] := by simp [World.cell?, hg, hi]
    have hfro : w.frozen? ⟨g, o + i, none⟩ = false := by
      obtain ⟨lo, hi'⟩ := fz
      have hfz' := hfz
      unfold Clear at hfz'
      simp only [World.frozen?, hg, Bool.and_eq_false_iff, decide_eq_false_iff_not]
      simp only at hfz'
      omega
    have hst : (store ((⟨g, o, none⟩ : Addr).add i) v).run P w = .ok () (w.setRow g (cur.setIfInBounds (o + i) v)) := by
      rw [hadd, run_store P w _ v _ (h1 v (by simp)), hcell]
      simp [hfro, setCell_eq_setRow w g (o + i) cur t fz v hg]
    have ih := run_storeCells_fz P g o t fz rest (i + 1) (cur.setIfInBounds (o + i) v) (w.setRow g (cur.setIfInBounds (o + i) v)) (setRow_heap w g cur _ t _ hg) (by simpa using hfz) (by simp at hl ⊢; omega) (fun x hx => h1 x (by simp [hx]))
    simp only [storeCells, Sem.run_bind, hst, Result.andThen_ok, ih, setRow_setRow]
    congr 3
    have e := list_seg_step cur.toList (o + i) v rest (by simp at hl ⊢; omega)
    simpa [Array.toList_setIfInBounds, Nat.add_assoc] using e

theorem getElem?_mid {α : Type} (l : List α) (o : Nat) (vs : List α) (hl : o + vs.length ≤ l.length) (j : Nat) :
    (l.take o ++ vs ++ l.drop (o + vs.length))[j]? = if j < o then l[j]? else if j < o + vs.length then vs[j - o]? else l[j]? := by
  have ht : (l.take o).length = o := by simp; omega
  by_cases h1 : j < o
  · rw [if_pos h1, List.append_assoc, List.getElem?_append_left (by omega), List.getElem?_take, if_pos h1]
  · rw [if_neg h1]
    by_cases h2 : j < o + vs.length
    · rw [if_pos h2, List.getElem?_append_left (by simp; omega), List.getElem?_append_right (by omega), ht]
    · rw [if_neg h2, List.getElem?_append_right (by simp; omega)]
      rw [List.getElem?_drop]
      congr 1
      simp
      omega

/-- Rows are written over a block's cells: what the block then holds. -/
theorem cell?_setRow (w : World) {g : Nat} {cur : Array Value} {t : TypeId} {fr : Nat × Nat} (hg : w.heap[g]? = some (.cells cur t fr)) (cs : Array Value) (o : Nat) : (w.setRow g cs).cell? ⟨g, o, none⟩ = cs[o]? := by
  simp [World.cell?, setRow_heap w g cur cs t fr hg]
theorem cell?_heap {w : World} {g : Nat} {cur : Array Value} {t : TypeId} {fr : Nat × Nat} (hg : w.heap[g]? = some (.cells cur t fr)) (o : Nat) : w.cell? ⟨g, o, none⟩ = cur[o]? := by
  simp [World.cell?, hg]

/-- Rows r to r + k of an object are written: its cells from there on are 'vs', which the new rows' cells stand for. -/
theorem rows_write {P : Program} (R : Rel ρ H U w) {i sz : Nat} {rs rs' : List (List AV)} (hU : U i) (hg : H.get i = some (.rows sz rs)) {p : Nat} {vs : List Value} (hone : ∀ v ∈ vs, v.oneCell' = true)
    (hlen : rs'.length = rs.length) (hp : p + vs.length ≤ rs.length * sz) {xs : List AV} (hvs : RVs ρ H U w xs vs)
    (hrow : ∀ (r : Nat) (row : List AV), rs'[r]? = some row → row.length = sz)
    (hnew : ∀ (r : Nat) (row : List AV) (j : Nat) (x : AV), rs'[r]? = some row → row[j]? = some x → (p ≤ r * sz + j ∧ r * sz + j < p + vs.length ∧ xs[r * sz + j - p]? = some x) ∨ ((r * sz + j < p ∨ p + vs.length ≤ r * sz + j) ∧ ∃ row0, rs[r]? = some row0 ∧ row0[j]? = some x)) :
    ∃ w', (storeCells ⟨(ρ i).b, (ρ i).o + p, none⟩ vs).run P w = .ok () w' ∧ Rel ρ (H.set i (.rows sz rs')) U w' ∧ Ext ρ H U w ρ (H.set i (.rows sz rs')) U w' := by
  obtain ⟨hi, hb, hs, cs, t, fr, hh, hfz, hfit, hrs⟩ := R.obj i _ hU hg
  have hsz : (ρ i).o + p + vs.length ≤ cs.size := by omega
  have hrun := run_storeCells_fz P (ρ i).b ((ρ i).o + p) t fr vs 0 cs w hh hfz (by omega) hone
  simp only [Nat.add_zero] at hrun
  refine ⟨_, hrun, ?_⟩
  have hcells : ∀ k, ((cs.toList.take ((ρ i).o + p) ++ vs ++ cs.toList.drop ((ρ i).o + p + vs.length)).toArray)[k]? = if k < (ρ i).o + p then cs[k]? else if k < (ρ i).o + p + vs.length then vs[k - ((ρ i).o + p)]? else cs[k]? := by
    intro k
    rw [List.getElem?_toArray, getElem?_mid cs.toList ((ρ i).o + p) vs (by simpa using hsz)]
    simp
  have hsize : ((cs.toList.take ((ρ i).o + p) ++ vs ++ cs.toList.drop ((ρ i).o + p + vs.length)).toArray).size = cs.size := by
    simp
    omega
  generalize hcs' : (cs.toList.take ((ρ i).o + p) ++ vs ++ cs.toList.drop ((ρ i).o + p + vs.length)).toArray = cs' at *
  have hh' : (w.setRow (ρ i).b cs').heap[(ρ i).b]? = some (.cells cs' t fr) := setRow_heap w _ cs cs' t fr hh
  have hne : ∀ b, b ≠ (ρ i).b → (w.setRow (ρ i).b cs').heap[b]? = w.heap[b]? := fun b hb => heap_setRow_ne w hb cs'
  have hci : cellsIn (w.setRow (ρ i).b cs') (ρ i).b = cellsIn w (ρ i).b := by
    rw [cellsIn_some.2 ⟨cs', t, fr, hh', rfl⟩, cellsIn_some.2 ⟨cs, t, fr, hh, rfl⟩, hsize]
  have E : Ext ρ H U w ρ (H.set i (.rows sz rs')) U (w.setRow (ρ i).b cs') :=
    Ext.upd hU hg ⟨fun sz' rs'' e => by cases e; exact ⟨⟨rs, rfl⟩, hci⟩, fun es e => by cases e⟩ hne (size_setRow w _ _) rfl rfl rfl R
  refine ⟨Rel.upd R hU hg E hne ?_, E⟩
  refine ⟨hs, cs', t, fr, hh', by rw [hsize]; exact hfz, by rw [hsize, hlen]; exact hfit, ?_⟩
  rw [RRs_iff]
  intro r row hr
  refine ⟨hrow r row hr, ?_⟩
  rw [RR_iff]
  intro j x hj
  rw [cell?_heap hh', hcells]
  rcases hnew r row j x hr hj with ⟨h1, h2, h3⟩ | ⟨h1, row0, h2, h3⟩
  · obtain ⟨v, hv, hx⟩ := (RVs_iff.1 hvs).2 _ x h3
    refine ⟨v, ?_, RV.mono E.toExt0 x v hx⟩
    rw [if_neg (by omega), if_pos (by omega)]
    rw [← hv]
    congr 1
    omega
  · obtain ⟨_, hrr⟩ := RRs_iff.1 hrs r row0 h2
    obtain ⟨v, hv, hx⟩ := RR_iff.1 hrr j x h3
    refine ⟨v, ?_, RV.mono E.toExt0 x v hx⟩
    rw [cell?_heap hh] at hv
    rcases h1 with h1 | h1
    · rw [if_pos (by omega)]; exact hv
    · rw [if_neg (by omega), if_neg (by omega)]; exact hv

/-! ### New rows -/
theorem heap_push_lt (w : World) (o : Obj) {b : Nat} (h : b < w.heap.size) : ({ w with heap := w.heap.push o } : World).heap[b]? = w.heap[b]? := by
  show (w.heap.push o)[b]? = _
  rw [Array.getElem?_push, if_neg (by omega)]
theorem heap_push_new (w : World) (o : Obj) : ({ w with heap := w.heap.push o } : World).heap[w.heap.size]? = some o := by
  show (w.heap.push o)[w.heap.size]? = _
  simp

end
end Go.Cl
