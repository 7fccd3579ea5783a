/- The relation between an abstract heap and a world; it lives on under what a step may change. -/
import Derived.Test.YtpgdhlnocgfjcaaGreatDoorClCa
set_option linter.unusedSimpArgs false
set_option linter.unusedVariables false
set_option linter.unusedSectionVars false
namespace Go.Cl

/-- How many cells a block has. -/
def cellsIn (w : World) (b : Nat) : Option Nat := match w.heap[b]? with | some (.cells c _ _) => some c.size | _ => none

theorem cellsIn_some {w : World} {b n : Nat} : cellsIn w b = some n ↔ ∃ cs t fr, w.heap[b]? = some (.cells cs t fr) ∧ n = cs.size := by
  unfold cellsIn
  split
  · rename_i c t fr h
    constructor
    · intro e; cases e; exact ⟨c, t, fr, h, rfl⟩
    · rintro ⟨cs, t', fr', h', rfl⟩
      rw [h] at h'; cases h'; rfl
  · rename_i h
    constructor
    · intro e; cases e
    · rintro ⟨cs, t', fr', h', rfl⟩; exact absurd h' (h _ _ _)

/-- What a step may change: abstract objects may turn, come and go; what is no abstract object's stays. -/
structure Ext0 (ρ : Nat → Loc) (H : Heap) (U : Gh) (w : World) (ρ' : Nat → Loc) (H' : Heap) (U' : Gh) (w' : World) : Prop where
  le : ∀ i, U i → U' i
  old : ∀ i, U i → ∀ o', H'.get i = some o' → ∃ o, H.get i = some o ∧ ρ' i = ρ i ∧
    (∀ sz rs', o' = .rows sz rs' → (∃ rs, o = .rows sz rs) ∧ cellsIn w' (ρ i).b = cellsIn w (ρ i).b) ∧ (∀ es, o' = .map es → ∃ es0, o = .map es0)
  frame : ∀ b, b < w.heap.size → ¬ Mut ρ H U b → w'.heap[b]? = w.heap[b]? ∧ ¬ Mut ρ' H' U' b
  size : w.heap.size ≤ w'.heap.size
  os : w'.os = w.os
  tape : w'.tape = w.tape
  output : w'.output = w.output
  jj : U'.J = U.J ∧ U'.N = U.N

structure Ext (ρ : Nat → Loc) (H : Heap) (U : Gh) (w : World) (ρ' : Nat → Loc) (H' : Heap) (U' : Gh) (w' : World) : Prop extends Ext0 ρ H U w ρ' H' U' w' where
  keep : ∀ b, U.priv b → w'.heap[b]? = w.heap[b]? ∧ U'.priv b

theorem Ext0.refl (ρ : Nat → Loc) (H : Heap) (U : Gh) (w : World) : Ext0 ρ H U w ρ H U w :=
  ⟨fun _ h => h, fun i _ o' h => ⟨o', h, rfl, fun sz rs' e => ⟨⟨rs', e⟩, rfl⟩, fun es e => ⟨es, e⟩⟩, fun _ _ h => ⟨rfl, h⟩, Nat.le_refl _, rfl, rfl, rfl, rfl, rfl⟩

theorem Ext0.trans {ρ ρ' ρ'' : Nat → Loc} {H H' H'' : Heap} {U U' U'' : Gh} {w w' w'' : World} (h : Ext0 ρ H U w ρ' H' U' w') (k : Ext0 ρ' H' U' w' ρ'' H'' U'' w'') : Ext0 ρ H U w ρ'' H'' U'' w'' := by
  refine ⟨fun i hi => k.le i (h.le i hi), ?_, ?_, Nat.le_trans h.size k.size, k.os.trans h.os, k.tape.trans h.tape, k.output.trans h.output, ⟨k.jj.1.trans h.jj.1, k.jj.2.trans h.jj.2⟩⟩
  · intro i hi o'' ho''
    obtain ⟨o', ho', e1, r1, m1⟩ := k.old i (h.le i hi) o'' ho''
    obtain ⟨o, ho, e0, r0, m0⟩ := h.old i hi o' ho'
    refine ⟨o, ho, e1.trans e0, fun sz rs e => ?_, fun es e => ?_⟩
    · obtain ⟨⟨rs1, e1'⟩, c1⟩ := r1 sz rs e
      obtain ⟨⟨rs0, e0'⟩, c0⟩ := r0 sz rs1 e1'
      refine ⟨⟨rs0, e0'⟩, ?_⟩
      rw [e0] at c1
      exact c1.trans c0
    · obtain ⟨es1, e1'⟩ := m1 es e
      exact m0 es1 e1'
  · intro b hb hm
    obtain ⟨e, hm'⟩ := h.frame b hb hm
    obtain ⟨e', hm''⟩ := k.frame b (Nat.lt_of_lt_of_le hb h.size) hm'
    exact ⟨e'.trans e, hm''⟩

theorem Ext.refl (ρ : Nat → Loc) (H : Heap) (U : Gh) (w : World) : Ext ρ H U w ρ H U w := ⟨Ext0.refl _ _ _ _, fun _ h => ⟨rfl, h⟩⟩
theorem Ext.trans {ρ ρ' ρ'' : Nat → Loc} {H H' H'' : Heap} {U U' U'' : Gh} {w w' w'' : World} (h : Ext ρ H U w ρ' H' U' w') (k : Ext ρ' H' U' w' ρ'' H'' U'' w'') : Ext ρ H U w ρ'' H'' U'' w'' :=
  ⟨h.toExt0.trans k.toExt0, fun b hb => by
    obtain ⟨h1, h2⟩ := h.keep b hb
    obtain ⟨k1, k2⟩ := k.keep b h2
    exact ⟨k1.trans h1, k2⟩⟩

theorem cell?_of_heap {w w' : World} {b : Nat} (h : w'.heap[b]? = w.heap[b]?) (o : Nat) : w'.cell? ⟨b, o, none⟩ = w.cell? ⟨b, o, none⟩ := by
  unfold World.cell?
  dsimp only
  rw [h]

section mono
variable {ρ ρ' : Nat → Loc} {H H' : Heap} {U U' : Gh} {w w' : World} (E : Ext0 ρ H U w ρ' H' U' w')
include E
mutual
theorem RV.mono : ∀ (x : AV) (v : Value), RV ρ H U w x v → RV ρ' H' U' w' x v
  | .bool _, _, h => h
  | .int _ _, _, h => h
  | .str _, _, h => h
  | .nilp, _, h => h
  | .nils, _, h => h
  | .nilm, _, h => h
  | .nilf, _, h => h
  | .nili, _, h => h
  | .e0, _, h => h
  | .ptr i r o, v, h => by
    simp only [RV] at h ⊢
    obtain ⟨hi, a, hv, ha⟩ := h
    refine ⟨E.le _ hi, a, hv, fun sz rs hg => ?_⟩
    obtain ⟨o0, ho0, e, hr, _⟩ := E.old i hi _ hg
    obtain ⟨⟨rs0, e0⟩, _⟩ := hr sz rs rfl
    rw [e]
    exact ha sz rs0 (e0 ▸ ho0)
  | .sl i r n, v, h => by
    simp only [RV] at h ⊢
    obtain ⟨hi, a, c, hv, hc, ha⟩ := h
    refine ⟨E.le _ hi, a, c, hv, hc, fun sz rs hg => ?_⟩
    obtain ⟨o0, ho0, e, hr, _⟩ := E.old i hi _ hg
    obtain ⟨⟨rs0, e0⟩, hcs⟩ := hr sz rs rfl
    obtain ⟨h1, cs, t, fr, h2, h3⟩ := ha sz rs0 (e0 ▸ ho0)
    rw [e]
    refine ⟨h1, ?_⟩
    have h4 : cellsIn w' (ρ i).b = some cs.size := hcs.trans (cellsIn_some.2 ⟨cs, t, fr, h2, rfl⟩)
    obtain ⟨cs', t', fr', h5, h6⟩ := cellsIn_some.1 h4
    exact ⟨cs', t', fr', h5, h3.trans h6⟩
  | .map i, v, h => by
    simp only [RV] at h ⊢
    obtain ⟨hi, b, hv, hb⟩ := h
    refine ⟨E.le _ hi, b, hv, fun es hg => ?_⟩
    obtain ⟨o0, ho0, e, _, hm⟩ := E.old i hi _ hg
    obtain ⟨es0, e0⟩ := hm es rfl
    rw [e]
    exact hb es0 (e0 ▸ ho0)
  | .it i, v, h => by
    simp only [RV] at h ⊢
    obtain ⟨hi, b, hv, hb⟩ := h
    refine ⟨E.le _ hi, b, hv, fun o hg => ?_⟩
    obtain ⟨o0, ho0, e, _, _⟩ := E.old i hi _ hg
    rw [e]
    exact hb o0 ho0
  | .fs sz rows, v, h => by
    simp only [RV] at h ⊢
    obtain ⟨hs, a, c, hv, hc, hr⟩ := h
    refine ⟨hs, a, c, hv, hc, fun hne => ?_⟩
    obtain ⟨b, o, ha, hb, hm, hrs⟩ := hr hne
    obtain ⟨e, hm'⟩ := E.frame b hb hm
    exact ⟨b, o, ha, Nat.lt_of_lt_of_le hb E.size, hm', RRs.mono sz b e rows o hrs⟩
  | .fp row o, v, h => by
    simp only [RV] at h ⊢
    obtain ⟨ho, b, o', hv, hb, hm, hrs⟩ := h
    obtain ⟨e, hm'⟩ := E.frame b hb hm
    exact ⟨ho, b, o', hv, Nat.lt_of_lt_of_le hb E.size, hm', RR.mono b e row o' hrs⟩
  | .fn f first caps, v, h => by
    simp only [RV] at h ⊢
    obtain ⟨fs, cs, hv, hr1, hr⟩ := h
    exact ⟨fs, cs, hv, RVs.mono first _ hr1, RVs.mono caps _ hr⟩
  | .ifc t x, v, h => by
    simp only [RV] at h ⊢
    obtain ⟨u, hv, hr⟩ := h
    exact ⟨u, hv, RV.mono x u hr⟩
  | .agg cs, v, h => by
    simp only [RV] at h ⊢
    obtain ⟨us, hv, hr⟩ := h
    exact ⟨us, hv, RVs.mono cs _ hr⟩
  | .tup cs, v, h => by
    simp only [RV] at h ⊢
    obtain ⟨us, hv, hr⟩ := h
    exact ⟨us, hv, RVs.mono cs _ hr⟩
  | .any, _, h => trivial
  | .sy c, v, h => by
    simp only [RV] at h ⊢
    rw [E.jj.1]
    exact h
  | .op, _, h => h
  | .un, v, h => by
    simp only [RV] at h ⊢
    rw [E.jj.2]
    exact h
theorem RVs.mono : ∀ (xs : List AV) (vs : List Value), RVs ρ H U w xs vs → RVs ρ' H' U' w' xs vs
  | [], _, h => h
  | x :: xs, vs, h => by
    simp only [RVs] at h ⊢
    obtain ⟨v, r, e, h1, h2⟩ := h
    exact ⟨v, r, e, RV.mono x v h1, RVs.mono xs r h2⟩
theorem RR.mono (b : Nat) (e : w'.heap[b]? = w.heap[b]?) : ∀ (row : List AV) (o : Nat), RR ρ H U w b o row → RR ρ' H' U' w' b o row
  | [], _, _ => trivial
  | x :: xs, o, h => by
    simp only [RR] at h ⊢
    obtain ⟨⟨v, hv, hx⟩, hr⟩ := h
    exact ⟨⟨v, (cell?_of_heap e o).trans hv, RV.mono x v hx⟩, RR.mono b e xs (o + 1) hr⟩
theorem RRs.mono (sz b : Nat) (e : w'.heap[b]? = w.heap[b]?) : ∀ (rows : List (List AV)) (o : Nat), RRs ρ H U w sz b o rows → RRs ρ' H' U' w' sz b o rows
  | [], _, _ => trivial
  | row :: rest, o, h => by
    simp only [RRs] at h ⊢
    exact ⟨h.1, RR.mono b e row o h.2.1, RRs.mono sz b e rest (o + sz) h.2.2⟩
end
end mono

/-- The entries of a map. -/
def MRs (ρ : Nat → Loc) (H : Heap) (U : Gh) (w : World) : List (AV × AV) → List MapEntry → Prop
  | [], es => es = []
  | x :: xs, es => ∃ e r, es = e :: r ∧ RV ρ H U w x.1 e.key ∧ RV ρ H U w x.2 e.val ∧ MRs ρ H U w xs r

theorem MRs.mono {ρ ρ' : Nat → Loc} {H H' : Heap} {U U' : Gh} {w w' : World} (E : Ext0 ρ H U w ρ' H' U' w') : ∀ (xs : List (AV × AV)) (es : List MapEntry), MRs ρ H U w xs es → MRs ρ' H' U' w' xs es
  | [], _, h => h
  | x :: xs, es, h => by
    obtain ⟨e, r, he, h1, h2, h4⟩ := h
    exact ⟨e, r, he, RV.mono E _ _ h1, RV.mono E _ _ h2, MRs.mono E xs r h4⟩

def sameKind : IntKind → IntKind → Bool
  | .i8, .i8 | .i16, .i16 | .i32, .i32 | .i64, .i64 | .u8, .u8 | .u16, .u16 | .u32, .u32 | .u64, .u64 => true
  | _, _ => false
theorem sameKind_eq {a b : IntKind} : sameKind a b = true ↔ a = b := by cases a <;> cases b <;> simp [sameKind]
/-- Are two keys the same? -/
def keyEq : AV → AV → Bool
  | .int k a, .int k' b => sameKind k k' && a == b
  | .str a, .str b => a == b
  | _, _ => false

/-- Nothing of a block is frozen. -/
def Clear (fr : Nat × Nat) (n : Nat) : Prop := fr.1 = fr.2 ∨ n ≤ fr.1

/-- An object in the world. -/
def ORel (ρ : Nat → Loc) (H : Heap) (U : Gh) (w : World) (l : Loc) : AO → Prop
  | .rows sz rs => 0 < sz ∧ ∃ cs t fr, w.heap[l.b]? = some (.cells cs t fr) ∧ Clear fr cs.size ∧ l.o + rs.length * sz ≤ cs.size ∧ RRs ρ H U w sz l.b l.o rs
  | .map es => ∃ es' c p, w.heap[l.b]? = some (.map es' c) ∧ p.Perm es'.toList ∧ MRs ρ H U w es p ∧ es.Pairwise (fun a b => keyEq a.1 b.1 = false) ∧ (es'.toList.map (·.born)).Nodup ∧ ∀ e ∈ es'.toList, e.born < c
  | .sit s p => w.heap[l.b]? = some (.stringIter ⟨s.toArray⟩ p)
  | .box x => ∃ v t fr, w.heap[l.b]? = some (.cells #[v] t fr) ∧ RV ρ H U w x v
  | .mit m => ∃ mb since last, w.heap[l.b]? = some (.mapIter (some mb) since #[] last) ∧ RV ρ H U w (.map m) (.map (some mb))

/-- An abstract heap and a world. -/
structure Rel (ρ : Nat → Loc) (H : Heap) (U : Gh) (w : World) : Prop where
  obj : ∀ i o, U i → H.get i = some o → U i ∧ (ρ i).b < w.heap.size ∧ ORel ρ H U w (ρ i) o
  inj : ∀ i j oi oj, U i → U j → H.get i = some oi → H.get j = some oj → (ρ i).b = (ρ j).b → i = j
  priv : ∀ b, U.priv b → b < w.heap.size ∧ ∀ i o, U i → H.get i = some o → (ρ i).b ≠ b

/-- An object whose block is as it was. -/
theorem ORel.mono {ρ ρ' : Nat → Loc} {H H' : Heap} {U U' : Gh} {w w' : World} (E : Ext0 ρ H U w ρ' H' U' w') {l : Loc} (e : w'.heap[l.b]? = w.heap[l.b]?) : ∀ (o : AO), ORel ρ H U w l o → ORel ρ' H' U' w' l o
  | .rows sz rs, h => by
    obtain ⟨hs, cs, t, fr, h1, h2, h3, h4⟩ := h
    exact ⟨hs, cs, t, fr, e.trans h1, h2, h3, RRs.mono E sz l.b e rs l.o h4⟩
  | .map es, h => by
    obtain ⟨es', c, p, h1, h2, h3, h4⟩ := h
    exact ⟨es', c, p, e.trans h1, h2, MRs.mono E _ _ h3, h4⟩
  | .sit s p, h => e.trans h
  | .box x, h => by
    obtain ⟨v, t, fr, h1, h2⟩ := h
    exact ⟨v, t, fr, e.trans h1, RV.mono E _ _ h2⟩
  | .mit m, h => by
    obtain ⟨mb, s, c, h1, h2⟩ := h
    exact ⟨mb, s, c, e.trans h1, RV.mono E _ _ h2⟩

end Go.Cl
