/- The fast machine, with bodies that range over slices.Backward. -/
import Derived.Test.YtpgdhlnocgfjcaaGreatDoorClEh
import Derived.Test.YtpgdhlnocgfjcaaGreatDoorClEc
set_option linter.unusedSimpArgs false
set_option linter.unusedVariables false
set_option linter.unusedSectionVars false
namespace Go.Cl

noncomputable def itC (asg body : XB) (call : CallC) (n i j r len : Nat) (T : Tr AV) (p0 p1 : Nat) (m : Nat) : Heap → Nat → (Heap → Nat → Bool) → Bool :=
  Nat.rec (motive := fun _ => Heap → Nat → (Heap → Nat → Bool) → Bool) (fun H nx k => k H nx) (fun m ih H nx k => gpH (paOf 40 i) H fun ob => match ob with
    | some (.box (.sl j' r' n')) => bif Nat.beq j' j && Nat.beq r' r && Nat.beq n' len then gpH (paOf 40 j) H fun ob2 => (match ob2 with
      | some (.rows 1 rs) => nth rs (r + m) fun row => (match row with
        | [.int .i64 x] => spT (.int .i64 (.ofNat m)) (paOf 40 p0) T fun T1 => spT (.int .i64 x) (paOf 40 p1) T1 fun T2 => asg.run call n T2 H nx fun e T3 H3 nx3 => (match e with
          | .normal => body.run call n T3 H3 nx3 fun e T4 H4 nx4 => (match e with
            | .normal => ih H4 nx4 k
            | _ => false)
          | _ => false)
        | _ => false)
      | _ => false) else false
    | _ => false) m
noncomputable def rangeXB (bk : Nat → Bool) (nt : Nat) (g : RB) (ps : Array Tmp) (asg body : XB) : XB := .mk fun call n T H nx k => Nat.rec (motive := fun _ => Bool) false (fun n _ => g.run T fun gv => match gv, ps.toList with
  | .fn f [] [.it i], [p0, p1] => bif bk f && Nat.ble (p0 + 1) nt && Nat.ble (p1 + 1) nt then gpH (paOf 40 i) H fun ob => (match ob with
    | some (.box (.sl j r len)) => bif Nat.ble len 4611686018427387904 then itC asg body call n i j r len T p0 p1 len H nx fun H' nx' => k .normal T H' nx' else false
    | _ => false) else false
  | _, _ => false) n
noncomputable def lessX (b : XB) : XB := .mk fun call n T H nx k => Nat.rec (motive := fun _ => Bool) false (fun m _ => b.run call m T H nx k) n
noncomputable def xbB (E : Env) (bk : Nat → Bool) (nt : Nat) (c : Code) : XB := Code.rec (motive := fun _ => XB)
  (lessX (xb E nt .skip)) (fun i ops draw => lessX (xb E nt (.region i ops draw))) (fun _ _ a b => seqX a b) (fun x _ _ a b => condX (rd x) a b) (fun id _ b => blockX id b) (fun c _ => lessX (xb E nt (.loop c)))
  (fun g ps a b _ _ => rangeXB bk nt (rd g) ps (xb E nt a) (xb E nt b)) (fun id => lessX (xb E nt (.exit id))) (fun c _ => lessX (xb E nt (.scope c))) (fun l => lessX (xb E nt (.label l))) (fun l => lessX (xb E nt (.goto l))) (lessX (xb E nt .ret)) (fun w => lessX (xb E nt (.refuse w))) c
noncomputable def cfnB (E : Env) (bk : Nat → Bool) (prim : Nat → Option PrimA) (f : Nat) : CF := match prim f with
  | some p => .prim p
  | none => match E.fn.get f with
    | some fn => match fn.body with
      | some c => match xbB E bk fn.ntmps c with | .mk f => .code fn.ntmps f fn.results.toList
      | none => .bad
    | none => .bad
noncomputable def callX (E : Env) (prim : Nat → Option PrimA) (bk : Nat → Bool) (F n : Nat) : CallC :=
  Nat.rec (motive := fun _ => CallC) (fun _ _ _ _ _ => false) (fun _ ih f args H nx k => CF.rec (motive := fun _ => Bool)
    (fun p => out3 (p args H nx) k)
    (fun nt c rs => Bool.rec (motive := fun _ => Bool) false (argsC args 0 .lf fun T => c ih F T H nx fun e T' H' nx' => ExA.rec (motive := fun _ => Bool)
        (resC E rs T' H' fun xs => oneC xs fun y => k y H' nx') (fun _ => false) (resC E rs T' H' fun xs => oneC xs fun y => k y H' nx') e) (Nat.ble args.length nt))
    false (cfnB E bk prim f)) n

section
variable {E : Env} {cc : CallC} {call : CallA} (hc : CallSpec cc call) {nt : Nat} {bk : Nat → Bool}
include hc
theorem itC_spec {n i j r len : Nat} {T : Tr AV} {p0 p1 : Nat} {asg body : Code} : ∀ (m : Nat) (H : Heap) (nx : Nat) (k : Heap → Nat → Bool), itC (xb E nt asg) (xb E nt body) cc n i j r len T p0 p1 m H nx k = true →
    ∃ H' nx', itA E call (drawA E call) nt n i j r len T p0 p1 asg body m H nx = some (H', nx') ∧ k H' nx' = true
  | 0, H, nx, k, h => ⟨H, nx, rfl, h⟩
  | m + 1, H, nx, k, h => by
    have h := gpH_get h
    split at h
    · rename_i j' r' n' hb
      rw [Bool.cond_eq_ite] at h
      split at h
      case isFalse => cases h
      rename_i hck
      have h := gpH_get h
      split at h
      · rename_i rs hrs
        obtain ⟨row, h1, h2⟩ := nth_spec h
        split at h2
        · rename_i x
          obtain ⟨e, s1, g1, g2⟩ := xb_spec hc n asg _ H nx _ (spT_spec (spT_spec h2))
          split at g2
          · obtain ⟨e2, s2, g3, g4⟩ := xb_spec hc n body _ _ _ _ g2
            split at g4
            · obtain ⟨H', nx', g5, g6⟩ := itC_spec m _ _ _ g4
              exact ⟨H', nx', by simp only [itA, hb, hck, cond_true, hrs, h1, g1]; simp only [show (⟨s1.T, s1.H, s1.nx⟩ : St) = s1 from rfl] at g3; simp only [g3]; exact g5, g6⟩
            · cases g4
          · cases g2
        · cases h2
      · cases h
    · cases h

theorem xbB_spec : ∀ (n : Nat) (c : Code) (T : Tr AV) (H : Heap) (nx : Nat) (k : KX), (xbB E bk nt c).run cc n T H nx k = true → ∃ e s', bodyA E bk call (drawA E call) nt n c ⟨T, H, nx⟩ = some (e, s') ∧ k e s'.T s'.H s'.nx = true := by
  intro n
  induction n with
  | zero =>
    intro c T H nx k h
    cases c <;> cases h
  | succ n ih =>
    intro c T H nx k h
    cases c
    case seq a b =>
      obtain ⟨e, s1, g1, g2⟩ := ih a T H nx _ h
      cases e with
      | normal =>
        obtain ⟨e', s', g3, g4⟩ := ih b _ _ _ _ g2
        exact ⟨e', s', by simp only [bodyA, g1]; exact g3, g4⟩
      | exit id => exact ⟨_, s1, by simp only [bodyA, g1], g2⟩
      | ret => exact ⟨_, s1, by simp only [bodyA, g1], g2⟩
    case cond x a b =>
      obtain ⟨b', he, h⟩ := avBool_spec (rd_spec (o := x) h)
      cases b' with
      | true =>
        obtain ⟨e, s', g1, g2⟩ := ih a T H nx k h
        exact ⟨e, s', by simp only [bodyA, he]; exact g1, g2⟩
      | false =>
        obtain ⟨e, s', g1, g2⟩ := ih b T H nx k h
        exact ⟨e, s', by simp only [bodyA, he]; exact g1, g2⟩
    case block id b =>
      obtain ⟨e, s1, g1, g2⟩ := ih b T H nx _ h
      cases e with
      | normal => exact ⟨_, s1, by simp only [bodyA, g1], g2⟩
      | ret => exact ⟨_, s1, by simp only [bodyA, g1], g2⟩
      | exit id' =>
        cases hb : Nat.beq id' id with
        | true => simp only [hb] at g2; exact ⟨_, s1, by simp only [bodyA, g1, hb, cond_true], g2⟩
        | false => simp only [hb] at g2; exact ⟨_, s1, by simp only [bodyA, g1, hb, cond_false], g2⟩
    case rangeFunc g ps a b =>
      have h := rd_spec (o := g) h
      split at h
      · rename_i f i p0 p1 hg hps
        rw [Bool.cond_eq_ite] at h
        split at h
        case isFalse => cases h
        rename_i hck
        have h := gpH_get h
        split at h
        · rename_i j r len hb
          rw [Bool.cond_eq_ite] at h
          split at h
          case isFalse => cases h
          rename_i hl
          obtain ⟨H', nx', g1, g2⟩ := itC_spec hc len H nx _ h
          exact ⟨.normal, ⟨T, H', nx'⟩, by simp only [bodyA, hg, hps, hck, cond_true, hb, hl, g1], g2⟩
        · cases h
      · cases h
    case skip  =>
      obtain ⟨e, s', g1, g2⟩ := xb_spec hc n .skip T H nx k h
      exact ⟨e, s', by simpa only [bodyA] using g1, g2⟩
    case region i o d =>
      obtain ⟨e, s', g1, g2⟩ := xb_spec hc n (.region i o d) T H nx k h
      exact ⟨e, s', by simpa only [bodyA] using g1, g2⟩
    case loop b =>
      obtain ⟨e, s', g1, g2⟩ := xb_spec hc n (.loop b) T H nx k h
      exact ⟨e, s', by simpa only [bodyA] using g1, g2⟩
    case exit i =>
      obtain ⟨e, s', g1, g2⟩ := xb_spec hc n (.exit i) T H nx k h
      exact ⟨e, s', by simpa only [bodyA] using g1, g2⟩
    case scope b =>
      obtain ⟨e, s', g1, g2⟩ := xb_spec hc n (.scope b) T H nx k h
      exact ⟨e, s', by simpa only [bodyA] using g1, g2⟩
    case label l =>
      obtain ⟨e, s', g1, g2⟩ := xb_spec hc n (.label l) T H nx k h
      exact ⟨e, s', by simpa only [bodyA] using g1, g2⟩
    case goto l =>
      obtain ⟨e, s', g1, g2⟩ := xb_spec hc n (.goto l) T H nx k h
      exact ⟨e, s', by simpa only [bodyA] using g1, g2⟩
    case ret  =>
      obtain ⟨e, s', g1, g2⟩ := xb_spec hc n .ret T H nx k h
      exact ⟨e, s', by simpa only [bodyA] using g1, g2⟩
    case refuse w =>
      obtain ⟨e, s', g1, g2⟩ := xb_spec hc n (.refuse w) T H nx k h
      exact ⟨e, s', by simpa only [bodyA] using g1, g2⟩
end

theorem callX_spec {E : Env} {prim : Nat → Option PrimA} {bk : Nat → Bool} {F : Nat} : ∀ n, CallSpec (callX E prim bk F n) (callB E prim bk (drawA E) F n)
  | 0 => by intro f args H nx k h; cases h
  | n + 1 => by
    intro f args H nx k h
    have h1 : (CF.rec (motive := fun _ => Bool)
      (fun p => out3 (p args H nx) k)
      (fun nt c rs => Bool.rec (motive := fun _ => Bool) false (argsC args 0 .lf fun T => c (callX E prim bk F n) F T H nx fun e T' H' nx' => ExA.rec (motive := fun _ => Bool)
        (resC E rs T' H' fun xs => oneC xs fun y => k y H' nx') (fun _ => false) (resC E rs T' H' fun xs => oneC xs fun y => k y H' nx') e) (Nat.ble args.length nt))
      false (cfnB E bk prim f)) = true := h
    clear h
    unfold callB
    unfold cfnB at h1
    cases hp : prim f with
    | some p =>
      simp only [hp] at h1 ⊢
      exact out3_spec h1
    | none =>
      simp only [hp] at h1 ⊢
      cases hf : E.fn.get f with
      | none => simp only [hf] at h1; cases h1
      | some fn =>
        simp only [hf] at h1
        cases hb : fn.body with
        | none => simp only [hb] at h1; cases h1
        | some c =>
          simp only [hb] at h1
          generalize hx : xbB E bk fn.ntmps c = bx at h1
          obtain ⟨g⟩ := bx
          simp only at h1
          cases hl : Nat.ble args.length fn.ntmps with
          | false => rw [hl] at h1; cases h1
          | true =>
            rw [hl] at h1
            have h2 := argsC_spec _ _ _ _ h1
            obtain ⟨e, s, g1, g2⟩ := xbB_spec (callX_spec n) (E := E) (bk := bk) (nt := fn.ntmps) F c (argsT args 0 .lf) H nx (fun e T' H' nx' => ExA.rec (motive := fun _ => Bool)
        (resC E fn.results.toList T' H' fun xs => oneC xs fun y => k y H' nx') (fun _ => false) (resC E fn.results.toList T' H' fun xs => oneC xs fun y => k y H' nx') e) (by rw [hx]; exact h2)
            have fin : resC E fn.results.toList s.T s.H (fun xs => oneC xs fun y => k y s.H s.nx) = true → ∃ y H' nx', (match resultsA E s fn.results.toList with
                | some [x] => some (x, s.H, s.nx)
                | some xs => some (.tup xs, s.H, s.nx)
                | none => none) = some (y, H', nx') ∧ k y H' nx' = true := by
              intro h
              obtain ⟨xs, g3, g4⟩ := resC_spec (nx := s.nx) h
              unfold oneC at g4
              split at g4
              · rename_i x
                exact ⟨x, s.H, s.nx, by simp only [show (⟨s.T, s.H, s.nx⟩ : St) = s from rfl] at g3; simp only [g3], g4⟩
              · refine ⟨.tup xs, s.H, s.nx, ?_, g4⟩
                simp only [show (⟨s.T, s.H, s.nx⟩ : St) = s from rfl] at g3
                simp only [g3]
            cases e with
            | normal =>
              obtain ⟨y, H', nx', g3, g4⟩ := fin g2
              exact ⟨y, H', nx', by simp only [runB, hf, hb, hl, cond_true, g1]; exact g3, g4⟩
            | exit id => cases g2
            | ret =>
              obtain ⟨y, H', nx', g3, g4⟩ := fin g2
              exact ⟨y, H', nx', by simp only [runB, hf, hb, hl, cond_true, g1]; exact g3, g4⟩
end Go.Cl
