/- Functions with an answer of their own: what makes new blocks alone. -/
import Derived.Test.YtpgdhlnocgfjcaaGreatDoorClEe
import Derived.WalkKit
set_option linter.unusedSimpArgs false
set_option linter.unusedVariables false
set_option linter.unusedSectionVars false
namespace Go.Cl
open Go.RowKit
section
variable {P : Program} {ρ : Nat → Loc} {H : Heap} {U : Gh} {w w' : World}
theorem below_ext (R : Rel ρ H U w) (h : Below w.heap.size w w') : Ext ρ H U w ρ H U w' := by
  have hh : ∀ b, b < w.heap.size → w'.heap[b]? = w.heap[b]? := h.block
  refine ⟨⟨fun _ h => h, fun i hi o' ho => ⟨o', ho, rfl, fun sz rs' e => ⟨⟨rs', e⟩, ?_⟩, fun es e => ⟨es, e⟩⟩, fun b hb hm => ⟨hh b hb, hm⟩, h.size, h.os, h.tape, h.output, rfl, rfl⟩, fun b hb => ⟨hh b (R.priv b hb).1, hb⟩⟩
  unfold cellsIn
  rw [hh _ (R.obj i o' hi ho).2.1]
theorem below_rel (R : Rel ρ H U w) (h : Below w.heap.size w w') : Rel ρ H U w' :=
  ⟨fun i o hi ho => ⟨hi, Nat.lt_of_lt_of_le (R.obj i o hi ho).2.1 h.size, ORel.mono (below_ext R h).toExt0 (h.block _ (R.obj i o hi ho).2.1) o (R.obj i o hi ho).2.2⟩, R.inj, fun b hb => ⟨Nat.lt_of_lt_of_le (R.priv b hb).1 h.size, (R.priv b hb).2⟩⟩

/-- A function that makes new blocks alone. -/
theorem below_ok {f : Nat} {p : PrimA} (h : ∀ args H nx y H' nx', p args H nx = some (y, H', nx') → H' = H ∧ nx' = nx ∧ ∀ ρ U w (vs : Array Value), Rel ρ H U w → RVs ρ H U w args vs.toList →
    ∃ v, (callFunc f vs).run P w = .ok (.enter f vs) w ∧ (Calls P f vs w fun e w' => e = .returned v ∧ Below w.heap.size w w') ∧ ∀ w', Rel ρ H U w' → Below w.heap.size w w' → RV ρ H U w' y v) : FnOk P f p := by
  intro args H nx y H' nx' hp ρ U w vs R B hv
  obtain ⟨rfl, rfl, h2⟩ := h args H nx y H' nx' hp
  obtain ⟨v, h3, h4, h5⟩ := h2 ρ U w vs R hv
  refine .inr ⟨h3, h4.mono ?_⟩
  rintro e w' ⟨rfl, hb⟩
  exact ⟨v, rfl, ρ, U, h5 w' (below_rel R hb) hb, below_rel R hb, below_ext R hb, Grow.refl _ _⟩
end

/-- token.Expand, where nothing is put in. -/
def primExpand : PrimA := fun args H nx => match args with
  | [.str l, .str o] => match l with
    | [] => none
    | b :: r => bif Nat.ble (Nat.succ r.length) 200 then (match idxB 36 (b :: r) 0 with | .negSucc _ => some (.tup [.str (b :: r), .int .i64 0], H, nx) | _ => none) else none
  | _ => none

theorem primExpand_ok {P : Program} {f : Nat} (he : ∀ args w, (callFunc f args).run P w = .ok (.enter f args) w)
    (hc : ∀ (l : List UInt8) (o : Value) (w : World), l ≠ [] → l.length ≤ 200 → Lib.indexByte l 36 = -1 → Calls P f #[.string ⟨l.toArray⟩, o] w fun e w' => e = .returned (.tuple #[.string ⟨l.toArray⟩, .int .i64 0]) ∧ Below w.heap.size w w') : FnOk P f primExpand := by
  refine below_ok fun args H nx y H' nx' hp => ?_
  unfold primExpand at hp
  split at hp
  · rename_i l o
    split at hp
    · cases hp
    · rename_i b r
      rw [Bool.cond_eq_ite] at hp
      split at hp
      case isFalse => cases hp
      rename_i hlen
      split at hp <;> cases hp
      rename_i n hi
      have hlen := bleT hlen
      have hix : Lib.indexByte (b :: r) 36 = -1 := by
        have := idxB_eq 36 (b :: r) 0
        rw [show (36 : UInt8).toNat = 36 from rfl, hi] at this
        by_cases h : Lib.indexByte (b :: r) 36 = -1
        · exact h
        · rw [if_neg h] at this
          have := Lib.indexByte_ge (b :: r) 36
          omega
      refine ⟨rfl, rfl, fun ρ U w vs R hv => ?_⟩
      simp only [RVs, RV] at hv
      obtain ⟨v1, r1, e1, rfl, v2, r2, rfl, rfl, rfl⟩ := hv
      rw [arr2 e1]
      refine ⟨_, he _ _, hc (b :: r) _ w (by simp) (by simpa using hlen) hix, fun w' _ _ => ?_⟩
      simp only [RV, RVs]
      exact ⟨_, rfl, _, _, rfl, rfl, _, _, rfl, rfl, rfl⟩
  · cases hp
end Go.Cl
