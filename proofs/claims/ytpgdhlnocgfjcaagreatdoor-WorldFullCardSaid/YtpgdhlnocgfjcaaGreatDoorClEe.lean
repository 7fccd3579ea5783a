/- Functions with an answer of their own: Go's stand-ins for strings of bytes, and for maps that are cloned. -/
import Derived.Test.YtpgdhlnocgfjcaaGreatDoorClCs
import Derived.Lib.Bytealg
set_option linter.unusedSimpArgs false
set_option linter.unusedVariables false
set_option linter.unusedSectionVars false
namespace Go.Cl

section
variable {P : Program} {f : Nat} {fn : Func} {e : Array Value → Sem Value}

theorem extern_ok (hf : P.funcs[f]? = some fn) (hname : (fn.name == "runtime.NumGoroutine") = false) (hb : fn.body.isNone = true) (hn : Extern.findNext fn = none) (he : Extern.find fn = some e) {p : PrimA}
    (h : ∀ args H nx y H' nx', p args H nx = some (y, H', nx') → ∀ ρ U w (vs : Array Value), Rel ρ H U w → Bound U nx → RVs ρ H U w args vs.toList → OutN ρ H U w y H' nx nx' ((e vs).run P w)) : FnOk P f p := by
  intro args H nx y H' nx' hp ρ U w vs R B hv
  obtain ⟨U', ⟨v, w', ρ', h1, h2, h3, h4⟩, h5⟩ := h args H nx y H' nx' hp ρ U w vs R B hv
  exact .inl ⟨v, w', by rw [run_callFunc_extern hf hname hb hn he, h1]; rfl, ρ', U', h2, h3, h4, h5⟩

theorem arr2 {vs : Array Value} {a b : Value} (h : vs.toList = [a, b]) : vs = #[a, b] := by
  apply Array.toList_inj.1; simpa using h
theorem arr1 {vs : Array Value} {a : Value} (h : vs.toList = [a]) : vs = #[a] := by
  apply Array.toList_inj.1; simpa using h

/-- The place of a byte. -/
def idxB (c : Nat) : List UInt8 → Nat → Int
  | [], _ => -1
  | b :: l, i => bif Nat.beq b.toNat c then .ofNat i else idxB c l (Nat.succ i)
theorem idxB_eq (c : UInt8) : ∀ (l : List UInt8) (i : Nat), idxB c.toNat l i = (if Lib.indexByte l c = -1 then -1 else Lib.indexByte l c + i)
  | [], i => by simp [idxB, Lib.indexByte]
  | b :: l, i => by
    unfold idxB Lib.indexByte
    by_cases h : b = c
    · subst h
      simp only [beq_true, cond_true, beq_self_eq_true, if_true]
      have : ¬ ((0 : Int) = -1) := by decide
      rw [if_neg this]
      simp
    · have hne : Nat.beq b.toNat c.toNat = false := beq_false fun e => h (UInt8.toNat_inj.1 e)
      have hne2 : (b == c) = false := by simpa using h
      simp only [hne, cond_false, hne2, Bool.false_eq_true, if_false, beq_iff_eq]
      rw [idxB_eq c l (Nat.succ i)]
      have hge := Lib.indexByte_ge l c
      split
      · rfl
      · have : ¬ (Lib.indexByte l c + 1 = -1) := by omega
        rw [if_neg this]
        push_cast
        omega
def primIdx : PrimA := fun args H nx => match args with
  | [.str l, .int .u8 (.ofNat c)] => bif Nat.ble c 255 then some (.int .i64 (idxB c l 0), H, nx) else none
  | _ => none
def cntB (c : Nat) : List UInt8 → Nat → Nat
  | [], n => n
  | b :: l, n => bif Nat.beq b.toNat c then cntB c l (Nat.succ n) else cntB c l n
theorem cntB_eq (c : UInt8) : ∀ (l : List UInt8) (n : Nat), cntB c.toNat l n = Lib.countByte l c + n
  | [], n => by simp [cntB, Lib.countByte]
  | b :: l, n => by
    unfold cntB
    unfold Lib.countByte
    rw [List.count_cons]
    by_cases h : b = c
    · subst h
      simp only [beq_true, cond_true, beq_self_eq_true, if_true]
      rw [cntB_eq b l]
      unfold Lib.countByte
      omega
    · have hne : Nat.beq b.toNat c.toNat = false := beq_false fun e => h (UInt8.toNat_inj.1 e)
      have hne2 : (b == c) = false := by simpa using h
      simp only [hne, cond_false, hne2, Bool.false_eq_true, if_false]
      rw [cntB_eq c l]
      unfold Lib.countByte
      omega
def primCnt : PrimA := fun args H nx => match args with
  | [.str l, .int .u8 (.ofNat c)] => bif Nat.ble c 255 then some (.int .i64 (.ofNat (cntB c l 0)), H, nx) else none
  | _ => none
def primSame : PrimA := fun args H nx => match args with
  | [x] => some (x, H, nx)
  | _ => none
def primClone : PrimA := fun args H nx => match args with
  | [.ifc t (.map i)] => match H.get i with
    | some (.map es) => some (.ifc t (.map nx), H.set nx (.map es), nx + 1)
    | _ => none
  | _ => none

theorem byte_of {c : Nat} (hc : Nat.ble c 255 = true) : ((Int.ofNat c).toNat.toUInt8).toNat = c := by
  have := Nat.le_of_ble_eq_true hc
  show (Nat.toUInt8 c).toNat = c
  simp
  omega

variable (hf : P.funcs[f]? = some fn) (hname : (fn.name == "runtime.NumGoroutine") = false) (hb : fn.body.isNone = true) (hn : Extern.findNext fn = none)
include hf hname hb hn

theorem primIdx_ok (he : Extern.find fn = some Extern.BytealgIndexByte.indexByte) : FnOk P f primIdx := by
  refine extern_ok hf hname hb hn he fun args H nx y H' nx' hp ρ U w vs R B hv => ?_
  unfold primIdx at hp
  split at hp
  · rename_i l c
    rw [Bool.cond_eq_ite] at hp
    split at hp <;> cases hp
    rename_i hc
    simp only [RVs, RV] at hv
    obtain ⟨v1, r1, e1, rfl, v2, r2, rfl, rfl, rfl⟩ := hv
    rw [arr2 e1, Lib.run_indexByteString]
    have e3 : idxB c l 0 = Lib.indexByte l ((Int.ofNat c).toNat.toUInt8) := by
      have := idxB_eq ((Int.ofNat c).toNat.toUInt8) l 0
      rw [byte_of hc] at this
      rw [this]
      split <;> simp_all
    refine Out.n0 (Out.same R rfl ?_)
    simp only [RV, e3]
  · cases hp
theorem primCnt_ok (he : Extern.find fn = some Extern.BytealgCount.count) : FnOk P f primCnt := by
  refine extern_ok hf hname hb hn he fun args H nx y H' nx' hp ρ U w vs R B hv => ?_
  unfold primCnt at hp
  split at hp
  · rename_i l c
    rw [Bool.cond_eq_ite] at hp
    split at hp <;> cases hp
    rename_i hc
    simp only [RVs, RV] at hv
    obtain ⟨v1, r1, e1, rfl, v2, r2, rfl, rfl, rfl⟩ := hv
    rw [arr2 e1, Lib.run_countString]
    have e3 : cntB c l 0 = Lib.countByte l ((Int.ofNat c).toNat.toUInt8) := by
      have := cntB_eq ((Int.ofNat c).toNat.toUInt8) l 0
      rw [byte_of hc] at this
      simpa using this
    refine Out.n0 (Out.same R rfl ?_)
    simp only [RV, e3]
    rfl
  · cases hp
theorem primSame_ok (he : Extern.find fn = some Extern.AbiNoEscape.same) : FnOk P f primSame := by
  refine extern_ok hf hname hb hn he fun args H nx y H' nx' hp ρ U w vs R B hv => ?_
  unfold primSame at hp
  split at hp
  · cases hp
    simp only [RVs] at hv
    obtain ⟨v1, r1, e1, h1, rfl⟩ := hv
    rw [arr1 e1]
    exact Out.n0 (Out.same R rfl h1)
  · cases hp
theorem primClone_ok (he : Extern.find fn = some Extern.MapsClone.clone) : FnOk P f primClone := by
  refine extern_ok hf hname hb hn he fun args H nx y H' nx' hp ρ U w vs R B hv => ?_
  unfold primClone at hp
  split at hp
  · rename_i t i
    split at hp
    · rename_i es hg
      cases hp
      simp only [RVs, RV] at hv
      obtain ⟨v1, r1, e1, ⟨u, rfl, hU, b, rfl, hbr⟩, rfl⟩ := hv
      rw [arr1 e1]
      have hbl := hbr es hg
      subst hbl
      obtain ⟨_, hlt, es', c, p, k1, k2, k3, k4, k5, k6⟩ := R.obj i _ hU hg
      have hrun : (Extern.MapsClone.clone #[.iface t (.map (some (ρ i).b))]).run P w = .ok (.iface t (.map (some w.heap.size))) { w with heap := w.heap.push (.map es' c) } := by
        have : (getObj (ρ i).b).run P w = .ok (.map es' c) w := run_getMap k1
        show Sem.run P (getObj (ρ i).b >>= _) w = _
        rw [Sem.run_bind, this]
        rfl
      rw [hrun]
      have X : Ext ρ H U w (atNew ρ nx ⟨w.heap.size, 0⟩) (H.set nx (.map es)) (Use nx U) { w with heap := w.heap.push (.map es' c) } :=
        Ext.new B.not R (Nat.le_refl _) (fun b hb => heap_push_lt w _ hb) (by simp) rfl rfl rfl
      refine Out.n ⟨_, _, atNew ρ nx ⟨w.heap.size, 0⟩, rfl, ?_, ?_, X⟩
      · simp only [RV]
        refine ⟨_, rfl, .inl rfl, _, rfl, fun es hg => ?_⟩
        rw [atNew_new]
      · refine Rel.new B.not R X (Nat.le_refl _) (fun b hb => heap_push_lt w _ hb) (by simp) ?_
        exact ⟨es', c, p, heap_push_new w _, k2, MRs.mono X.toExt0 _ _ k3, k4, k5, k6⟩
    · cases hp
  · cases hp
end
end Go.Cl
