/- The core's data: tries, abstract values, abstract heaps, their meaning in a world. -/
import Derived.Calls
import Derived.Orders
import Derived.Laws.Sem
set_option linter.unusedSimpArgs false
set_option linter.unusedVariables false
namespace Go.Cl

/-! ### Tries -/
inductive Tr (α : Type) where
  | lf
  | nd (v : Option α) (l r : Tr α)
  | ov (k : Nat) (v : Option α) (t : Tr α)

def Tr.get {α : Type} : Tr α → Nat → Option α
  | .lf, _ => none
  | .nd v l r, k => bif Nat.beq k 0 then v else bif Nat.beq ((k - 1) % 2) 0 then l.get ((k - 1) / 2) else r.get ((k - 1) / 2)
  | .ov k' v t, k => bif Nat.beq k k' then v else t.get k

def Tr.put {α : Type} (v : Option α) : Nat → Tr α → Nat → Tr α
  | 0, t, k => .ov k v t
  | n + 1, .lf, k => bif Nat.beq k 0 then .nd v .lf .lf else bif Nat.beq ((k - 1) % 2) 0 then .nd none (Tr.put v n .lf ((k - 1) / 2)) .lf else .nd none .lf (Tr.put v n .lf ((k - 1) / 2))
  | n + 1, .nd u l r, k => bif Nat.beq k 0 then .nd v l r else bif Nat.beq ((k - 1) % 2) 0 then .nd u (Tr.put v n l ((k - 1) / 2)) r else .nd u l (Tr.put v n r ((k - 1) / 2))
  | _ + 1, .ov k' u t, k => .ov k v (.ov k' u t)

def Tr.set {α : Type} (t : Tr α) (k : Nat) (v : α) : Tr α := Tr.put (some v) 40 t k
def Tr.del {α : Type} (t : Tr α) (k : Nat) : Tr α := Tr.put none 40 t k

theorem beq_false {a b : Nat} (h : a ≠ b) : Nat.beq a b = false := by
  rcases hb : Nat.beq a b with _ | _
  · rfl
  · exact absurd (Nat.eq_of_beq_eq_true hb) h
theorem beq_true (a : Nat) : Nat.beq a a = true := Nat.beq_refl a

theorem Tr.get_put {α : Type} (v : Option α) (n : Nat) : ∀ (t : Tr α) (k j : Nat), (Tr.put v n t k).get j = if j = k then v else t.get j := by
  induction n with
  | zero =>
    intro t k j
    simp only [Tr.put, Tr.get]
    split
    · rename_i h; subst h; simp [beq_true]
    · rename_i h; simp [beq_false h]
  | succ n ih =>
    intro t k j
    have key : ∀ (u : Option α) (l r : Tr α), (bif Nat.beq k 0 then Tr.nd v l r else bif Nat.beq ((k - 1) % 2) 0 then .nd u (Tr.put v n l ((k - 1) / 2)) r else .nd u l (Tr.put v n r ((k - 1) / 2))).get j = if j = k then v else (Tr.nd u l r).get j := by
      intro u l r
      by_cases hk : k = 0
      · subst hk
        by_cases hj : j = 0
        · subst hj; simp [Tr.get, beq_true]
        · simp [Tr.get, beq_true, beq_false hj, hj]
      · rw [beq_false hk]
        by_cases hj : j = 0
        · subst hj
          have hk' : (0 : Nat) ≠ k := Ne.symm hk
          by_cases hm : (k - 1) % 2 = 0
          · simp [Tr.get, hm, beq_true, hk']
          · simp [Tr.get, beq_false hm, beq_true, hk']
        · by_cases hm : (k - 1) % 2 = 0
          · rw [hm, beq_true]
            by_cases hn : (j - 1) % 2 = 0
            · have he : ((j - 1) / 2 = (k - 1) / 2) ↔ j = k := by omega
              simp [Tr.get, beq_false hj, hn, beq_true, ih, he]
            · have hne : j ≠ k := by intro h; subst h; exact hn hm
              simp [Tr.get, beq_false hj, beq_false hn, hne]
          · rw [beq_false hm]
            by_cases hn : (j - 1) % 2 = 0
            · have hne : j ≠ k := by intro h; subst h; exact hm hn
              simp [Tr.get, beq_false hj, hn, beq_true, hne]
            · have he : ((j - 1) / 2 = (k - 1) / 2) ↔ j = k := by omega
              simp [Tr.get, beq_false hj, beq_false hn, ih, he]
    cases t with
    | lf =>
      have h := key none .lf .lf
      have h2 : (Tr.nd none .lf .lf : Tr α).get j = (Tr.lf : Tr α).get j := by
        simp only [Tr.get]
        cases Nat.beq j 0 <;> simp
      rw [h2] at h
      simpa only [Tr.put] using h
    | nd u l r => simpa only [Tr.put] using key u l r
    | ov k' u t =>
      simp only [Tr.put]
      rw [Tr.get.eq_def]
      dsimp only
      by_cases hj : j = k
      · subst hj; simp [beq_true]
      · simp [beq_false hj, hj]

theorem Tr.get_set {α : Type} (t : Tr α) (k j : Nat) (v : α) : (t.set k v).get j = if j = k then some v else t.get j := Tr.get_put _ _ _ _ _
theorem Tr.get_del {α : Type} (t : Tr α) (k j : Nat) : (t.del k).get j = if j = k then none else t.get j := Tr.get_put _ _ _ _ _

/-! ### Abstract values and heaps -/
inductive AV where
  | bool (b : Bool)
  | int (k : IntKind) (n : Int)
  | str (l : List UInt8)
  | nilp | nils | nilm | nilf | nili | e0
  | ptr (i r o : Nat)
  | sl (i r n : Nat)
  | map (i : Nat)
  | it (i : Nat)
  | fs (sz : Nat) (rows : List (List AV))
  | fp (row : List AV) (o : Nat)
  | fn (f : Nat) (first caps : List AV)
  | ifc (t : Nat) (v : AV)
  | agg (cs : List AV)
  | tup (vs : List AV)
  | any
  | sy (c : Nat)
  | op
  | un

/-- An object of the abstract heap. -/
inductive AO where
  | rows (sz : Nat) (rs : List (List AV))
  | map (es : List (AV × AV))
  | sit (s : List UInt8) (pos : Nat)
  | box (x : AV)
  | mit (m : Nat)

abbrev Heap := Tr AO

/-- What is changed in the concrete world by a step of the abstract one. -/
structure Loc where
  b : Nat
  o : Nat

/-- The names in use, the blocks that are somebody's own, and a number that is not known (below 400, where it counts). -/
structure Gh where
  use : Nat → Prop
  priv : Nat → Prop
  J : Nat
  N : Int
instance : CoeFun Gh (fun _ => Nat → Prop) := ⟨Gh.use⟩

/-- Is a block one of an abstract object's, or nobody's yet? -/
def Mut (ρ : Nat → Loc) (H : Heap) (U : Gh) (b : Nat) : Prop := (∃ i o, U i ∧ H.get i = some o ∧ (ρ i).b = b) ∨ U.priv b

/-- The names that are in use, with one more. -/
def Use (n : Nat) (U : Gh) : Gh := ⟨fun i => i = n ∨ U.use i, U.priv, U.J, U.N⟩

mutual
/-- A value stands for an abstract one. -/
def RV (ρ : Nat → Loc) (H : Heap) (U : Gh) (w : World) : AV → Value → Prop
  | .bool b, v => v = .bool b
  | .int k n, v => v = .int k n
  | .str l, v => v = .string ⟨l.toArray⟩
  | .nilp, v => v = .pointer none
  | .e0, v => ∃ a, v = .slice a 0 0
  | .nils, v => v = .slice none 0 0
  | .nilm, v => v = .map none
  | .nilf, v => v = .nilFunc
  | .nili, v => v = .nilIface
  | .ptr i r o, v => U i ∧ ∃ a, v = .pointer (some a) ∧ ∀ sz rs, H.get i = some (.rows sz rs) → a = ⟨(ρ i).b, (ρ i).o + r * sz + o, none⟩
  | .sl i r n, v => U i ∧ ∃ a c, v = .slice (some a) n c ∧ n ≤ c ∧ ∀ sz rs, H.get i = some (.rows sz rs) → a = ⟨(ρ i).b, (ρ i).o + r * sz, none⟩ ∧
      ∃ cs t fr, w.heap[(ρ i).b]? = some (.cells cs t fr) ∧ (ρ i).o + (r + c) * sz = cs.size
  | .map i, v => U i ∧ ∃ b, v = .map (some b) ∧ ∀ es, H.get i = some (.map es) → b = (ρ i).b
  | .it i, v => U i ∧ ∃ b, v = .pointer (some ⟨b, 0, none⟩) ∧ ∀ o, H.get i = some o → b = (ρ i).b
  | .fs sz rows, v => 0 < sz ∧ ∃ a c, v = .slice a rows.length c ∧ rows.length ≤ c ∧ (rows ≠ [] → ∃ b o, a = some ⟨b, o, none⟩ ∧ b < w.heap.size ∧ ¬ Mut ρ H U b ∧ RRs ρ H U w sz b o rows)
  | .fp row o, v => o ≤ row.length ∧ ∃ b o', v = .pointer (some ⟨b, o' + o, none⟩) ∧ b < w.heap.size ∧ ¬ Mut ρ H U b ∧ RR ρ H U w b o' row
  | .fn f first caps, v => ∃ fs cs, v = .func (.func f) fs cs ∧ RVs ρ H U w first fs.toList ∧ RVs ρ H U w caps cs.toList
  | .ifc t x, v => ∃ u, v = .iface t u ∧ RV ρ H U w x u
  | .agg cs, v => ∃ us, v = .agg us ∧ RVs ρ H U w cs us.toList
  | .tup cs, v => ∃ us, v = .tuple us ∧ RVs ρ H U w cs us.toList
  | .any, _ => True
  | .sy c, v => v = .int .i64 ((U.J + c : Nat) : Int) ∧ U.J < 400
  | .op, v => v.oneCell' = true
  | .un, v => v = .int .u8 U.N
def RVs (ρ : Nat → Loc) (H : Heap) (U : Gh) (w : World) : List AV → List Value → Prop
  | [], vs => vs = []
  | x :: xs, vs => ∃ v r, vs = v :: r ∧ RV ρ H U w x v ∧ RVs ρ H U w xs r
/-- A row of cells in a block. -/
def RR (ρ : Nat → Loc) (H : Heap) (U : Gh) (w : World) (b : Nat) : Nat → List AV → Prop
  | _, [] => True
  | o, x :: xs => (∃ v, w.cell? ⟨b, o, none⟩ = some v ∧ RV ρ H U w x v) ∧ RR ρ H U w b (o + 1) xs
/-- Rows of one size in a block. -/
def RRs (ρ : Nat → Loc) (H : Heap) (U : Gh) (w : World) (sz b : Nat) : Nat → List (List AV) → Prop
  | _, [] => True
  | o, row :: rest => row.length = sz ∧ RR ρ H U w b o row ∧ RRs ρ H U w sz b (o + sz) rest
end

end Go.Cl
