/- Each operation is sound: conversions, lengths, the least and the greatest. -/
import Derived.Test.YtpgdhlnocgfjcaaGreatDoorClCm
set_option linter.unusedSimpArgs false
set_option linter.unusedVariables false
set_option linter.unusedSectionVars false
namespace Go.Cl

def lenOpA (E : Env) (t : Nat) (x : AV) (H : Heap) : Option AV :=
  match E.ty.get t with
  | some ti => match ti.td, x with
    | .str, .str l => some (.int .i64 l.length)
    | .sl _, .nils | .sl _, .e0 | .map _ _, .nilm => some (.int .i64 0)
    | .sl _, .fs _ rows => some (.int .i64 rows.length)
    | .sl _, .sl _ _ n => some (.int .i64 n)
    | .map _ _, .map i => match H.get i with | some (.map es) => some (.int .i64 es.length) | _ => none
    | _, _ => none
  | none => none

def minA : AV → List AV → Option AV
  | x, [] => some x
  | .int k x, .int _ y :: rest => minA (.int k (if y < x then y else x)) rest
  | _, _ => none
def maxA : AV → List AV → Option AV
  | x, [] => some x
  | .int k x, .int _ y :: rest => maxA (.int k (if y > x then y else x)) rest
  | _, _ => none

section
variable {P : Program} {E : Env} (hE : E.Ok P) {ρ : Nat → Loc} {H : Heap} {U : Gh} {w : World}

/-- A mark behind a block's end. -/
theorem freeze_sound (R : Rel ρ H U w) {i sz : Nat} {rs : List (List AV)} (hU : U i) (hg : H.get i = some (.rows sz rs)) {cs : Array Value} {t : TypeId} {fr : Nat × Nat} (hh : w.heap[(ρ i).b]? = some (.cells cs t fr)) :
    Rel ρ H U (w.freeze ⟨(ρ i).b, cs.size, none⟩ 1) ∧ Ext ρ H U w ρ H U (w.freeze ⟨(ρ i).b, cs.size, none⟩ 1) := by
  have hne : ∀ b, b ≠ (ρ i).b → (w.freeze ⟨(ρ i).b, cs.size, none⟩ 1).heap[b]? = w.heap[b]? := fun b hb => by
    simp only [World.freeze, Array.getElem?_modify]
    rw [if_neg (by decide)]
    simp only [Array.getElem?_modify]
    rw [if_neg (fun e => hb e.symm)]
  have hb := (R.obj i _ hU hg).2.1
  obtain ⟨_, _, hs, cs1, t1, fr1, hh1, hfz, hfit, hrs⟩ := R.obj i _ hU hg
  rw [hh] at hh1
  cases hh1
  have hnew : (w.freeze ⟨(ρ i).b, cs.size, none⟩ 1).heap[(ρ i).b]? = some (.cells cs t (if fr.1 == fr.2 then (cs.size, cs.size + 1) else (min fr.1 cs.size, max fr.2 (cs.size + 1)))) := by
    simp only [World.freeze]
    rw [if_neg (by decide)]
    simp only [Array.getElem?_modify, if_true, hh, Option.map_some]
  have hset : ∀ j, (H.set i (.rows sz rs)).get j = H.get j := fun j => by
    rw [Tr.get_set]
    split
    · rename_i e; rw [e, hg]
    · rfl
  have hsz : (w.freeze ⟨(ρ i).b, cs.size, none⟩ 1).heap.size = w.heap.size := by
    simp only [World.freeze]
    rw [if_neg (by decide)]
    simp
  have hos : (w.freeze ⟨(ρ i).b, cs.size, none⟩ 1).os = w.os ∧ (w.freeze ⟨(ρ i).b, cs.size, none⟩ 1).tape = w.tape ∧ (w.freeze ⟨(ρ i).b, cs.size, none⟩ 1).output = w.output := by
    simp only [World.freeze]
    rw [if_neg (by decide)]
    exact ⟨rfl, rfl, rfl⟩
  have hci : cellsIn (w.freeze ⟨(ρ i).b, cs.size, none⟩ 1) (ρ i).b = cellsIn w (ρ i).b := by
    rw [cellsIn_some.2 ⟨cs, t, _, hnew, rfl⟩, cellsIn_some.2 ⟨cs, t, fr, hh, rfl⟩]
  have X : Ext ρ H U w ρ H U (w.freeze ⟨(ρ i).b, cs.size, none⟩ 1) := by
    refine ⟨⟨fun _ h => h, fun j hj o' ho => ⟨o', ho, rfl, fun sz rs' e => ⟨⟨rs', e⟩, ?_⟩, fun es e => ⟨es, e⟩⟩, fun b hb hm => ⟨hne b (fun e => hm (.inl ⟨i, _, hU, hg, e.symm⟩)), hm⟩, by omega, hos.1, hos.2.1, hos.2.2, rfl, rfl⟩, fun b hb => ⟨hne b (fun e => (R.priv b hb).2 i _ hU hg e.symm), hb⟩⟩
    by_cases hji : (ρ j).b = (ρ i).b
    · rw [hji]; exact hci
    · unfold cellsIn
      rw [hne _ hji]
  refine ⟨⟨fun j o uj hj => ?_, fun j k oj ok uj uk hj hk e => R.inj j k oj ok uj uk hj hk e, fun b hb => ⟨by have := (R.priv b hb).1; omega, (R.priv b hb).2⟩⟩, X⟩
  obtain ⟨k1, k2, k3⟩ := R.obj j o uj hj
  refine ⟨k1, by omega, ?_⟩
  by_cases hji : j = i
  · subst hji
    rw [hg] at hj
    cases hj
    refine ⟨hs, cs, t, _, hnew, ?_, hfit, ?_⟩
    · unfold Clear at hfz ⊢
      split
      · exact .inr (Nat.le_refl _)
      · rename_i h
        have h : fr.1 ≠ fr.2 := by simpa using h
        right
        simp only
        omega
    · rw [RRs_iff] at hrs ⊢
      intro r row hr
      obtain ⟨l1, l2⟩ := hrs r row hr
      refine ⟨l1, ?_⟩
      rw [RR_iff] at l2 ⊢
      intro j' x hx
      obtain ⟨v, m1, m2⟩ := l2 j' x hx
      refine ⟨v, ?_, RV.mono X.toExt0 _ _ m2⟩
      rw [cell?_heap hh] at m1
      rw [cell?_heap hnew]
      exact m1
  · have hbne : (ρ j).b ≠ (ρ i).b := fun e => hji (R.inj j i o _ uj hU hj hg e)
    exact ORel.mono X.toExt0 (hne _ hbne) o k3

theorem bytes_ext {a b : ByteArray} (h : a.data.toList = b.data.toList) : a = b := by
  cases a; cases b
  congr 1
  exact Array.ext' h

theorem run_getMap {w : World} {r : Nat} {es : Array MapEntry} {c : Nat} (h : w.heap[r]? = some (.map es c)) : (getObj r).run P w = .ok (.map es c) w := by
  simp [getObj, Sem.run, h]
theorem run_getSit {w : World} {r : Nat} {s : ByteArray} {p : Nat} (h : w.heap[r]? = some (.stringIter s p)) : (getObj r).run P w = .ok (.stringIter s p) w := by
  simp [getObj, Sem.run, h]
theorem run_getMit {w : World} {r : Nat} {m : Option Nat} {s : Nat} {seen : Array Nat} {c : Nat} (h : w.heap[r]? = some (.mapIter m s seen c)) : (getObj r).run P w = .ok (.mapIter m s seen c) w := by
  simp [getObj, Sem.run, h]

theorem rowsOf_slice {sz : Nat} {x : AV} {rows : List (List AV)} (h : rowsOf sz H x = some rows) (hns : ∀ l, x = .str l → False) {vx : Value} (hx : RV ρ H U w x vx) : ∃ a n c, vx = .slice a n c := by
  cases x <;> simp only [rowsOf] at h <;> (try cases h) <;> simp only [RV] at hx
  all_goals first
    | exact (hns _ rfl).elim
    | exact ⟨_, _, _, hx⟩
    | (obtain ⟨a, hx⟩ := hx; exact ⟨_, _, _, hx⟩)
    | (obtain ⟨_, a, c, hx, _⟩ := hx; exact ⟨_, _, _, hx⟩)

theorem MRs_length : ∀ {xs : List (AV × AV)} {es : List MapEntry}, MRs ρ H U w xs es → es.length = xs.length
  | [], es, h => by simp only [MRs] at h; subst h; rfl
  | x :: xs, es, h => by
    obtain ⟨e, r, rfl, _, _, h4⟩ := h
    simp [MRs_length h4]

include hE
theorem len_sound {t ty : Nat} {ts : Array Nat} (hts : ts[0]? = some t) {x y : AV} (h : lenOpA E t x H = some y) (R : Rel ρ H U w) {vx : Value} (hx : RV ρ H U w x vx) :
    ∃ v, (Builtin.len_ ts ty #[vx]).run P w = .ok v w ∧ RV ρ H U w y v := by
  unfold lenOpA at h
  split at h
  case h_2 => cases h
  rename_i ti hti
  have ht := hE.ty _ _ hti
  split at h <;> (try cases h)
  · rename_i htd
    simp only [RV] at hx; subst hx
    exact ⟨_, by simp [Builtin.len_, hts, run_underlying (und_str ht htd), bsize]; rfl, by simp only [RV]; rfl⟩
  · rename_i htd
    simp only [RV] at hx; subst hx
    exact ⟨_, by simp [Builtin.len_, hts, run_underlying (und_sl ht htd)]; rfl, by simp only [RV]; rfl⟩
  · rename_i htd
    simp only [RV] at hx; obtain ⟨a, rfl⟩ := hx
    exact ⟨_, by simp [Builtin.len_, hts, run_underlying (und_sl ht htd)]; rfl, by simp only [RV]; rfl⟩
  · rename_i htd
    simp only [RV] at hx; subst hx
    exact ⟨_, by simp [Builtin.len_, hts, run_underlying (und_map ht htd)]; rfl, by simp only [RV]; rfl⟩
  · rename_i htd
    simp only [RV] at hx; obtain ⟨_, a, c, rfl, _⟩ := hx
    exact ⟨_, by simp [Builtin.len_, hts, run_underlying (und_sl ht htd)]; rfl, by simp only [RV]; rfl⟩
  · rename_i htd
    simp only [RV] at hx; obtain ⟨_, a, c, rfl, _⟩ := hx
    exact ⟨_, by simp [Builtin.len_, hts, run_underlying (und_sl ht htd)]; rfl, by simp only [RV]; rfl⟩
  · rename_i i htd
    split at h <;> cases h
    rename_i es hg
    simp only [RV] at hx
    obtain ⟨hU, b, rfl, hb⟩ := hx
    have hb := hb _ hg
    subst hb
    obtain ⟨_, _, es', cc, p, hh, hp, hm, _⟩ := R.obj i _ hU hg
    have hl := (hp.length_eq.symm.trans (MRs_length hm))
    exact ⟨_, by simp [Builtin.len_, hts, run_underlying (und_map ht htd), run_getMap hh]; rfl, by simp only [RV]; rw [← hl]; simp [goInt]⟩
omit hE

theorem min_sound {ts : Array Nat} {ty : Nat} : ∀ {xs : List AV} {x y : AV} {vx : Value} {vs : List Value}, minA x xs = some y → RV ρ H U w x vx → RVs ρ H U w xs vs → ∃ v, (List.foldlM Builtin.min2 vx vs).run P w = .ok v w ∧ RV ρ H U w y v
  | [], x, y, vx, vs, h, hx, hv => by
    simp only [RVs] at hv; subst hv
    cases x <;> (simp only [minA, Option.some.injEq] at h; subst h; exact ⟨vx, rfl, hx⟩)
  | x2 :: xs, x, y, vx, vs, h, hx, hv => by
    simp only [RVs] at hv
    obtain ⟨v2, r, rfl, h2, hr⟩ := hv
    cases x <;> cases x2 <;> simp only [minA, reduceCtorEq] at h
    rename_i k a k' b
    simp only [RV] at hx h2
    subst hx; subst h2
    obtain ⟨v, h1, h2⟩ := min_sound (ts := ts) (ty := ty) (vx := .int k (if b < a then b else a)) h (by simp only [RV]) hr
    exact ⟨v, by rw [List.foldlM_cons]; simpa [Builtin.min2] using h1, h2⟩
theorem max_sound {ts : Array Nat} {ty : Nat} : ∀ {xs : List AV} {x y : AV} {vx : Value} {vs : List Value}, maxA x xs = some y → RV ρ H U w x vx → RVs ρ H U w xs vs → ∃ v, (List.foldlM Builtin.max2 vx vs).run P w = .ok v w ∧ RV ρ H U w y v
  | [], x, y, vx, vs, h, hx, hv => by
    simp only [RVs] at hv; subst hv
    cases x <;> (simp only [maxA, Option.some.injEq] at h; subst h; exact ⟨vx, rfl, hx⟩)
  | x2 :: xs, x, y, vx, vs, h, hx, hv => by
    simp only [RVs] at hv
    obtain ⟨v2, r, rfl, h2, hr⟩ := hv
    cases x <;> cases x2 <;> simp only [maxA, reduceCtorEq] at h
    rename_i k a k' b
    simp only [RV] at hx h2
    subst hx; subst h2
    obtain ⟨v, h1, h2⟩ := max_sound (ts := ts) (ty := ty) (vx := .int k (if b > a then b else a)) h (by simp only [RV]) hr
    exact ⟨v, by rw [List.foldlM_cons]; simpa [Builtin.max2] using h1, h2⟩

theorem bytesOfRows_spec : ∀ {rows : List (List AV)} {l : List UInt8} {news : List Value}, bytesOfRows rows = some l → RVs ρ H U w rows.flatten news → ∃ ns : List Int, news = ns.map (Value.int .u8) ∧ l = ns.map (fun n => UInt8.ofNat n.toNat)
  | [], l, news, h, hn => by
    simp only [bytesOfRows, Option.some.injEq] at h
    subst h
    simp only [List.flatten_nil, RVs] at hn
    exact ⟨[], hn, rfl⟩
  | row :: rows, l, news, h, hn => by
    unfold bytesOfRows at h
    split at h
    · rename_i heq; cases heq
    · rename_i n rest heq
      cases heq
      split at h <;> cases h
      rename_i l' hl'
      simp only [List.flatten_cons, List.singleton_append, RVs] at hn
      obtain ⟨v, r, rfl, hv, hr⟩ := hn
      obtain ⟨ns, e1, e2⟩ := bytesOfRows_spec hl' hr
      simp only [RV] at hv
      subst hv
      exact ⟨(Int.ofNat n) :: ns, by simp [e1], by simp [e2]⟩
    · cases h

theorem foldl_push : ∀ (ns : List Int) (s : ByteArray), (ns.foldl (fun r n => r.push (UInt8.ofNat n.toNat)) s).data.toList = s.data.toList ++ ns.map (fun n => UInt8.ofNat n.toNat)
  | [], s => by simp
  | n :: ns, s => by
    rw [List.foldl_cons, foldl_push ns]
    simp [ByteArray.push]

include hE
theorem conv_sound {nx : Nat} (hn : ¬ U nx) {src dst : Nat} {x y : AV} {H' : Heap} {nx' : Nat} (h : convA E src dst x H nx = some (y, H', nx')) (R : Rel ρ H U w) {vx : Value} (hx : RV ρ H U w x vx) :
    OutN ρ H U w y H' nx nx' ((convert src dst vx).run P w) := by
  unfold convA at h
  split at h
  case h_2 => cases h
  rename_i si di hsi hdi
  have hs := hE.ty _ _ hsi
  have hd := hE.ty _ _ hdi
  obtain ⟨ds, hus, _⟩ := und_of hs
  split at h
  · rename_i k k' n hdt
    cases h
    simp only [RV] at hx; subst hx
    have hud := und_int hd hdt
    exact Out.n0 (Out.same R (v := .int k (k.wrap n)) (by simp [convert, run_underlying hus, run_underlying hud, Conv.intToInt]) (by simp only [RV, wrapA_eq]))
  · rename_i l hdt
    cases h
    simp only [RV] at hx; subst hx
    have hud := und_str hd hdt
    exact Out.n0 (Out.same R (v := .string ⟨l.toArray⟩) (by simp [convert, run_underlying hus, run_underlying hud]) (by simp only [RV]))
  · rename_i hdt hns
    have hud := und_str hd hdt
    split at h
    case h_2 => cases h
    rename_i e hst
    split at h
    case h_2 => cases h
    rename_i ei hei
    have he := hE.ty _ _ hei
    split at h
    case h_2 => cases h
    rename_i rows het hrows
    split at h
    case h_2 => cases h
    rename_i l hl
    cases h
    have hus' := und_sl hs hst
    have hue := und_int he het
    obtain ⟨news, n1, n2, n3, n4, n5⟩ := rows_read (P := P) R hrows hx
    obtain ⟨ns, e1, e2⟩ := bytesOfRows_spec hl n1
    have key : ∀ a n c, vx = .slice a n c → OutN ρ H U w (.str l) H nx nx ((convert src dst vx).run P w) := by
      intro a n c hv
      subst hv
      have hn : n = rows.length := by have := n3 w; simp [Builtin.lenOf] at this; exact this
      subst hn
      cases a with
      | none =>
        have hf := n4 rows.length w rfl (Nat.le_refl _)
        have hnews : news = [] := by
          rw [Nat.mul_one] at n2 hf
          rw [← n2, List.take_length] at hf
          simp [Builtin.firstCells] at hf
          exact hf
        have hl0 : l = [] := by
          rw [hnews] at e1
          have : ns = [] := by simpa using e1.symm
          rw [e2, this]; rfl
        subst hl0
        exact Out.n0 (Out.same R (v := .string ⟨#[]⟩) (by simp [convert, run_underlying hus', run_underlying hud, run_underlying hue, Conv.bytesToString]; rfl) (by simp only [RV]))
      | some a =>
        have hf := n4 rows.length w rfl (Nat.le_refl _)
        rw [Nat.mul_one] at n2 hf
        rw [← n2, List.take_length, e1] at hf
        simp only [Builtin.firstCells, Nat.mul_one] at hf
        have hlen : (ns.map (Value.int .u8)).length = rows.length := by rw [← e1, n2]
        rw [hlen] at hf
        have hrun := run_bytesToString (P := P) w a rows.length c ns hf
        refine Out.n0 (Out.same R (v := .string ⟨l.toArray⟩) ?_ (by simp only [RV]))
        have e3 : (ns.foldl (fun r n => r.push (UInt8.ofNat n.toNat)) ByteArray.empty) = ⟨l.toArray⟩ := by
          refine bytes_ext ?_
          rw [foldl_push, e2]
          simp
        rw [e3] at hrun
        simp [convert, run_underlying hus', run_underlying hud, run_underlying hue, hrun]
    obtain ⟨a, n, c, hv⟩ := rowsOf_slice hrows hns hx
    exact key a n c hv
  · rename_i e l hdt
    have hud := und_sl hd hdt
    split at h
    case h_2 => cases h
    rename_i ei hei
    have he := hE.ty _ _ hei
    split at h
    case h_2 => cases h
    rename_i het
    have hue := und_int he het
    cases hb : Nat.ble l.length 1099511627776 with
    | false => rw [hb, cond_false] at h; cases h
    | true =>
      rw [hb, cond_true] at h
      obtain ⟨k1, k2, k3, k4, k5⟩ := newRows_some h
      subst k3; subst k4; subst k5
      simp only [RV] at hx; subst hx
      have hrun := Lib.run_convert_string_bytes (P := P) w src dst e ⟨l.toArray⟩ hus hud hue
      have hsz : (⟨l.toArray⟩ : ByteArray).size = l.length := by simp [bsize]
      rw [hsz] at hrun
      rw [hrun]
      have hge := grownCap_ge w l.length 0 e
      have hcs : (Lib.bytesCells w e ⟨l.toArray⟩).size = grownCap w l.length 0 e := by simp [Lib.bytesCells, hsz]; omega
      refine Out.n (new_slice hn R k1 (fun row hr => (k2 row hr).1) (Lib.bytesCells w e ⟨l.toArray⟩) e _ _ hge (by rw [hcs, Nat.mul_one]) (by simpa using hge) (fun b hb => Lib.bytesWorld_at_old w e _ b hb) _ ?_ (Lib.bytesWorld_at_new w e _) rfl rfl rfl ?_)
      · exact .inr (Nat.le_refl _)
      · intro r row j x hr hj
        rw [List.getElem?_map] at hr
        cases hc : l[r]? with
        | none => simp [hc] at hr
        | some u =>
          simp only [hc, Option.map_some, Option.some.injEq] at hr
          subst hr
          have hj0 : j = 0 := by have := (List.getElem?_eq_some_iff.1 hj).1; simpa using this
          subst hj0
          simp only [List.getElem?_cons_zero, Option.some.injEq] at hj
          subst hj
          have hlt := (List.getElem?_eq_some_iff.1 hc).1
          refine ⟨.int .u8 u.toNat, ?_, by simp only [RV]⟩
          simp [Lib.bytesCells, Array.getElem?_append, hlt]
          rw [List.getElem?_eq_getElem hlt] at hc
          cases hc
          rfl
  · rename_i e i r n hdt
    have hud := und_sl hd hdt
    split at h
    case h_2 => cases h
    rename_i ei sz rs hei hg
    have he := hE.ty _ _ hei
    split at h
    case h_2 => cases h
    rename_i het
    have hue := und_int he het
    cases hb : Nat.beq src dst with
    | false => rw [hb, cond_false] at h; cases h
    | true =>
      rw [hb, cond_true] at h
      cases h
      have hsd := beqT hb
      subst hsd
      have hx' := hx
      simp only [RV] at hx
      obtain ⟨hU, a, c, rfl, hc, ha⟩ := hx
      obtain ⟨rfl, cs, t, fr, hh, hcap⟩ := ha _ _ hg
      obtain ⟨k1, k2⟩ := freeze_sound R hU hg hh
      have hshape : w.shape? (ρ i).b = some (t, cs.size) := by simp [World.shape?, hh]
      refine Out.n0 ⟨_, _, ρ, ?_, RV.mono k2.toExt0 _ _ hx', k1, k2⟩
      simp [convert, run_underlying hud, run_underlying hue, markStringish, hshape]
  · cases h
end
end Go.Cl
