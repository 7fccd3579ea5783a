/- Each operation is sound: append, copy, clear, what a slice or a string reads as. -/
import Derived.Test.YtpgdhlnocgfjcaaGreatDoorClCj
set_option linter.unusedSimpArgs false
set_option linter.unusedVariables false
set_option linter.unusedSectionVars false
namespace Go.Cl

theorem growBy_le (newLen : Nat) : ∀ (r c : Nat), newLen ≤ c + c → c ≤ newLen → ∃ b, Builtin.growBy newLen r c = b ∧ (b ≤ newLen + newLen / 4 + 192)
  | 0, c, _, h => ⟨c, rfl, by omega⟩
  | r + 1, c, h, h' => by
    simp only [Builtin.growBy]
    split
    · exact ⟨c, rfl, by omega⟩
    · rename_i hlt
      by_cases h2 : c + (c + 768) / 4 ≤ newLen
      · exact growBy_le newLen r _ (by omega) h2
      · have : ∀ r, Builtin.growBy newLen r (c + (c + 768) / 4) = c + (c + 768) / 4 := by
          intro r
          cases r with
          | zero => rfl
          | succ r => simp only [Builtin.growBy]; rw [if_pos (by omega)]
        rw [this]
        exact ⟨_, rfl, by omega⟩

theorem nextslicecap_le {need cap : Nat} (h : cap < need) : Builtin.nextslicecap need cap ≤ need + need + 512 := by
  unfold Builtin.nextslicecap
  split
  · omega
  · split
    · omega
    · obtain ⟨b, hb, hle⟩ := growBy_le need 4 cap (by omega) (by omega)
      rw [hb]
      omega

section
variable {P : Program} {E : Env} (hE : E.Ok P) {ρ : Nat → Loc} {H : Heap} {U : Gh} {w : World}

theorem RVs_append {xs ys : List AV} {vs us : List Value} (h : RVs ρ H U w xs vs) (k : RVs ρ H U w ys us) : RVs ρ H U w (xs ++ ys) (vs ++ us) := by
  induction xs generalizing vs with
  | nil => simp only [RVs] at h; subst h; exact k
  | cons x xs ih =>
    simp only [RVs] at h
    obtain ⟨v, r, rfl, hx, hr⟩ := h
    exact ⟨v, r ++ us, rfl, hx, ih hr⟩

theorem RRs_vals {sz b : Nat} : ∀ {rows : List (List AV)} {o : Nat}, RRs ρ H U w sz b o rows → ∃ vs : List Value, RVs ρ H U w rows.flatten vs ∧ vs.length = rows.length * sz ∧ ∀ j v, vs[j]? = some v → w.cell? ⟨b, o + j, none⟩ = some v
  | [], o, _ => ⟨[], rfl, by simp, by simp⟩
  | row :: rest, o, h => by
    simp only [RRs] at h
    obtain ⟨hl, hr, hrest⟩ := h
    obtain ⟨vs, h1, h2⟩ := RR_vals hr
    obtain ⟨us, k1, k2, k3⟩ := RRs_vals hrest
    have hvl : vs.length = sz := by rw [← RVs_length h1, hl]
    refine ⟨vs ++ us, by rw [List.flatten_cons]; exact RVs_append h1 k1, by simp [hvl, k2, Nat.add_mul]; omega, fun j v hj => ?_⟩
    by_cases hlt : j < vs.length
    · rw [List.getElem?_append_left hlt] at hj
      exact h2 j v hj
    · rw [List.getElem?_append_right (by omega)] at hj
      have := k3 _ v hj
      rwa [show o + sz + (j - vs.length) = o + j by omega] at this

theorem RRs_sub {sz b o r n : Nat} {rows : List (List AV)} (h : RRs ρ H U w sz b o rows) : RRs ρ H U w sz b (o + r * sz) ((rows.drop r).take n) := by
  rw [RRs_iff] at h ⊢
  intro k row hk
  rw [List.getElem?_take] at hk
  split at hk
  · rw [List.getElem?_drop] at hk
    have := h (r + k) row hk
    rwa [show o + (r + k) * sz = o + r * sz + k * sz by rw [Nat.add_mul]; omega] at this
  · cases hk

theorem cell?_heapEq {w w' : World} (h : w'.heap = w.heap) (a : Addr) : w'.cell? a = w.cell? a := by
  unfold World.cell?
  rw [h]

theorem flat_single : ∀ (l : List UInt8), (l.map fun b => [AV.int .u8 b.toNat]).flatten = l.map fun b => AV.int .u8 b.toNat
  | [] => rfl
  | b :: l => by simp only [List.map_cons, List.flatten_cons, flat_single l]; rfl

theorem Out.viaDel {i : Nat} {x : AV} {H' : Heap} {U' : Gh} {r : Result Value} (h : Out ρ (H.del i) U w x H' U' r) : Out ρ H U w x H' U' r := by
  obtain ⟨v, w', ρ', h1, h2, h3, h4⟩ := h
  exact ⟨v, w', ρ', h1, h2, h3, (Ext.del i).trans h4⟩

/-- What rows read as: so many values, in whatever world of this memory. -/
theorem rows_read (R : Rel ρ H U w) {sz : Nat} {x : AV} {rows : List (List AV)} (h : rowsOf sz H x = some rows) {v : Value} (hx : RV ρ H U w x v) :
    ∃ news : List Value, RVs ρ H U w rows.flatten news ∧ news.length = rows.length * sz ∧ (∀ w', (Builtin.lenOf v).run P w' = .ok rows.length w') ∧
      (∀ (m : Nat) (w' : World), w'.heap = w.heap → m ≤ rows.length → (Builtin.firstCells sz m v).run P w' = .ok (news.take (m * sz)).toArray w') ∧ (∀ row ∈ rows, row.length = sz) := by
  have fromCells : ∀ (b o c : Nat), RRs ρ H U w sz b o rows → ∃ news : List Value, RVs ρ H U w rows.flatten news ∧ news.length = rows.length * sz ∧ (∀ w', (Builtin.lenOf (.slice (some ⟨b, o, none⟩) rows.length c)).run P w' = .ok rows.length w') ∧
      (∀ (m : Nat) (w' : World), w'.heap = w.heap → m ≤ rows.length → (Builtin.firstCells sz m (.slice (some ⟨b, o, none⟩) rows.length c)).run P w' = .ok (news.take (m * sz)).toArray w') ∧ (∀ row ∈ rows, row.length = sz) := by
    intro b o c hr
    obtain ⟨vs, h1, h2, h3⟩ := RRs_vals hr
    refine ⟨vs, h1, h2, fun _ => rfl, fun m w' hw hm => ?_, fun row hrow => ?_⟩
    · have hmul : m * sz ≤ rows.length * sz := Nat.mul_le_mul_right _ hm
      have hl := run_loadCells_list (P := P) w' ⟨b, o, none⟩ (vs.take (m * sz)) (fun j u hj => by
        rw [List.getElem?_take] at hj
        split at hj
        · rw [add_none, cell?_heapEq hw]; exact h3 j u hj
        · cases hj)
      rw [List.length_take, Nat.min_eq_left (by omega)] at hl
      exact hl
    · obtain ⟨i, hi⟩ := List.mem_iff_getElem?.1 hrow
      exact (RRs_iff.1 hr i row hi).1
  have empty : ∀ (a : Option Addr) (c : Nat), rows = [] → ∃ news : List Value, RVs ρ H U w rows.flatten news ∧ news.length = rows.length * sz ∧ (∀ w', (Builtin.lenOf (.slice a 0 c)).run P w' = .ok rows.length w') ∧
      (∀ (m : Nat) (w' : World), w'.heap = w.heap → m ≤ rows.length → (Builtin.firstCells sz m (.slice a 0 c)).run P w' = .ok (news.take (m * sz)).toArray w') ∧ (∀ row ∈ rows, row.length = sz) := by
    intro a c e
    subst e
    refine ⟨[], rfl, by simp, fun _ => rfl, fun m w' _ hm => ?_, by simp⟩
    have : m = 0 := by simpa using hm
    subst this
    cases a with
    | none => simp [Builtin.firstCells]
    | some a => simp [Builtin.firstCells, loadCells, loadCellsFrom]
  cases x <;> simp only [rowsOf] at h <;> try cases h
  case nils => simp only [RV] at hx; subst hx; exact empty none 0 rfl
  case e0 => simp only [RV] at hx; obtain ⟨a, rfl⟩ := hx; exact empty a 0 rfl
  case str l =>
    cases hb : Nat.beq sz 1 with
    | false => rw [hb, cond_false] at h; cases h
    | true =>
      rw [hb, cond_true] at h
      have hs := beqT hb
      cases h
      subst hs
      simp only [RV] at hx
      subst hx
      have hflat := flat_single l
      refine ⟨l.map fun b => Value.int .u8 b.toNat, ?_, by simp, fun w' => by simp [Builtin.lenOf, bsize], fun m w' _ hm => ?_, ?_⟩
      · rw [hflat]
        refine RVs_iff.2 ⟨by simp, fun j x hj => ?_⟩
        rw [List.getElem?_map] at hj ⊢
        cases hc : l[j]? with
        | none => simp [hc] at hj
        | some u =>
          simp only [hc, Option.map_some, Option.some.injEq] at hj
          subst hj
          exact ⟨_, rfl, by simp only [RV]⟩
      · simp only [Builtin.firstCells, Nat.mul_one]
        have : ((⟨l.toArray⟩ : ByteArray).extract 0 m).data.map (fun b => Value.int .u8 b.toNat) = ((l.map fun b => Value.int .u8 b.toNat).take m).toArray := by
          rw [extract_bytes]
          simp
        rw [← this]
        rfl
      · intro row hrow
        obtain ⟨b, _, rfl⟩ := List.mem_map.1 hrow
        rfl
  case fs sz' rows' =>
    cases hb : Nat.beq sz sz' with
    | false => rw [hb, cond_false] at h; cases h
    | true =>
      rw [hb, cond_true] at h
      have hs := beqT hb
      cases h
      subst hs
      simp only [RV] at hx
      obtain ⟨_, a, c, rfl, hc, hr⟩ := hx
      by_cases he : rows = []
      · rw [show rows.length = 0 by rw [he]; rfl]
        have := empty a c he
        rwa [show rows.length = 0 by rw [he]; rfl] at this
      · obtain ⟨b, o, rfl, _, _, hrs⟩ := hr he
        exact fromCells b o c hrs
  case sl i r n =>
    cases hg : H.get i with
    | none => simp [hg] at h
    | some ob =>
      cases ob <;> simp only [hg] at h <;> try cases h
      rename_i sz' rs
      cases hb : (Nat.beq sz sz' && Nat.ble (r + n) rs.length) with
      | false => rw [hb, cond_false] at h; cases h
      | true =>
        rw [hb, cond_true] at h
        simp only [Bool.and_eq_true] at hb
        have hs := beqT hb.1
        have hle := bleT hb.2
        cases h
        subst hs
        simp only [RV] at hx
        obtain ⟨hU, a, c, rfl, hc, ha⟩ := hx
        obtain ⟨rfl, _⟩ := ha sz rs hg
        obtain ⟨_, _, _, cs, t', fr, hh, hfz, hfit, hrs⟩ := R.obj i _ hU hg
        have := fromCells (ρ i).b ((ρ i).o + r * sz) c (RRs_sub hrs)
        rwa [show ((rs.drop r).take n).length = n by simp; omega] at this ⊢

theorem isSeq_kind (hE : E.Ok P) {t : Nat} (h : isSeq E t = true) : (∃ e', P.underlying t = some (.slice e')) ∨ P.underlying t = some .string := by
  unfold isSeq at h
  split at h
  · rename_i ti hti
    split at h
    · rename_i e hd; exact .inl ⟨e, und_sl (hE.ty _ _ hti) hd⟩
    · rename_i hd; exact .inr (und_str (hE.ty _ _ hti) hd)
    · cases h
  · cases h

theorem size_zeroCells (z : Array Value) (n : Nat) : (Builtin.zeroCells z n).size = n * z.size := by simp [Builtin.zeroCells]

theorem leaves_flatten {rows : List (List AV)} (h : ∀ row ∈ rows, row.all AV.leaf = true) : rows.flatten.all AV.leaf = true := by
  rw [List.all_eq_true]
  intro x hx
  obtain ⟨row, hr, hx⟩ := List.mem_flatten.1 hx
  exact List.all_eq_true.1 (h row hr) x hx

theorem run_append_room_st (w w' : World) (t tx ty e : TypeId) (i : TypeInfo) (ht : P.underlying t = some (.slice e)) (hi : P.info? e = some i) (b off sLen sCap : Nat) (x : Value) (n : Nat) (news : List Value) (hs : Src P i.size tx x n news w)
    (hroom : sLen + n ≤ sCap) (hst : (storeCells ⟨b, off + sLen * i.size, none⟩ news).run P w = .ok () w') :
    (Builtin.append_ #[t, tx] ty #[.slice (some ⟨b, off, none⟩) sLen sCap, x]).run P w = .ok (.slice (some ⟨b, off, none⟩) (sLen + n) sCap) w' := by
  rcases hs.kind with ⟨e', hk⟩ | hk <;> simp [Builtin.append_, run_underlying ht, run_underlying hk, sizeOf, typeInfo, hi, hs.len, hroom, hs.cells, Addr.add_lit, hst]

include hE
theorem append_sound {nx : Nat} (hn : ¬ U nx) {t t2 ty : Nat} {s x y : AV} {H' : Heap} {nx' : Nat} (h : appendA E t t2 s x H nx = some (y, H', nx')) (R : Rel ρ H U w) {vs vx : Value} (hs : RV ρ H U w s vs) (hx : RV ρ H U w x vx) :
    OutN ρ H U w y H' nx nx' ((Builtin.append_ #[t, t2] ty #[vs, vx]).run P w) := by
  unfold appendA at h
  split at h
  case h_2 => cases h
  rename_i ti hti
  have ht := hE.ty _ _ hti
  split at h
  case h_2 => cases h
  rename_i e hd
  split at h
  case h_2 => cases h
  rename_i ei hei
  have hte := hE.ty _ _ hei
  split at h
  case h_2 => cases h
  rename_i new old hnew hold
  cases hb : (isSeq E t2 && Nat.ble ((old.length + new.length) * ei.bytes) 1099511627776 && Nat.ble 1 ei.bytes && Nat.ble ei.bytes 65536 && Nat.beq ei.zero.length ei.size) with
  | false => rw [hb, cond_false] at h; cases h
  | true =>
    rw [hb, cond_true] at h
    simp only [Bool.and_eq_true] at hb
    have hkind := isSeq_kind hE hb.1.1.1.1
    have c1 := bleT hb.1.1.1.2
    have c2 := bleT hb.1.1.2
    have c3 := bleT hb.1.2
    have c4 := beqT hb.2
    obtain ⟨ii, dd, q1, q2, q3, q4, q5, q6⟩ := tiOf_some hte
    obtain ⟨news, n1, n2, n3, n4, n5⟩ := rows_read (P := P) R hnew hx
    obtain ⟨olds, o1, o2, o3, o4, o5⟩ := rows_read (P := P) R hold hs
    have hul := und_sl ht hd
    -- the arm without room
    have grow : ∀ (base : Option Addr) (sCap : Nat), vs = .slice base old.length sCap → sCap < old.length + new.length → 0 < ei.size → (∀ row ∈ new, row.all AV.leaf = true) →
        ∃ (z : Value) (cs : Array Value), ii.zero = some z ∧ cs = ((olds ++ news).toArray ++ Builtin.zeroCells z.cells (grownCap w (old.length + new.length) sCap e - (old.length + new.length))) ∧
          (Builtin.append_ #[t, t2] ty #[vs, vx]).run P w = .ok (.slice (some ⟨w.heap.size, 0, none⟩) (old.length + new.length) (grownCap w (old.length + new.length) sCap e)) (w.drew.alloc (.cells cs e)) ∧
          grownCap w (old.length + new.length) sCap e * ei.size = cs.size ∧ old.length + new.length ≤ grownCap w (old.length + new.length) sCap e := by
      intro base sCap hvs hcap hsz hleaf
      cases hzero : ii.zero with
      | none => rw [hzero] at q5; simp only at q5; rw [q5] at c4; simp at c4; omega
      | some z =>
        rw [hzero] at q5
        simp only at q5
        have hzs : z.cells.size = ei.size := by rw [← c4, q5]; simp
        have hge := grownCap_ge w (old.length + new.length) sCap e
        have hsrc : Src P ii.size t2 vx new.length news w := ⟨hkind, n3, by
            have := n4 new.length w rfl (Nat.le_refl _)
            rw [← n2, List.take_length, q3] at this
            exact this, by
            have := n4 new.length w.drew rfl (Nat.le_refl _)
            rw [← n2, List.take_length, q3] at this
            exact this, by rw [n2, q3], oneCell_of_leaves (leaves_flatten hleaf) n1⟩
        have hnc := nextslicecap_le hcap
        have hfit : Builtin.nextslicecap (old.length + new.length) sCap * ii.bytes ≤ 281474976710656 := by
          rw [← q4]
          have h1 : Builtin.nextslicecap (old.length + new.length) sCap * ei.bytes ≤ ((old.length + new.length) + (old.length + new.length) + 512) * ei.bytes := Nat.mul_le_mul_right _ hnc
          rw [Nat.add_mul, Nat.add_mul] at h1
          omega
        have h63 : ((old.length + new.length : Nat) : Int) ≤ 9223372036854775807 := by
          have : old.length + new.length ≤ (old.length + new.length) * ei.bytes := Nat.le_mul_of_pos_right _ c2
          omega
        have hfo : (Builtin.firstCells ii.size old.length (.slice base old.length sCap)).run P w.drew = .ok olds.toArray w.drew := by
          have := o4 old.length w.drew rfl (Nat.le_refl _)
          rw [← o2, List.take_length, hvs, q3] at this
          exact this
        refine ⟨z, _, rfl, rfl, ?_, ?_, hge⟩
        · rw [hvs]
          exact run_append_grow_src (P := P) w t t2 ty e ii z hul q1 hzero base old.length sCap olds hfo vx new.length news hsrc hcap h63 hfit
        · rw [Array.size_append, size_zeroCells, hzs, List.size_toArray, List.length_append, n2, o2, ← Nat.add_mul, ← Nat.add_mul]
          congr 1
          omega
    split at h
    · -- nothing is appended
      have hn0 : news = [] := by have := n2; simp at this; exact this
      have key : ∀ base n c, vs = .slice base n c → n ≤ c → OutN ρ H U w s H nx nx ((Builtin.append_ #[t, t2] ty #[vs, vx]).run P w) := by
        intro base n c hvs hnc
        refine Out.n0 (Out.same R ?_ hs)
        subst hvs
        have hf0 := n4 0 w rfl (Nat.le_refl _)
        have hsto : ∀ a : Addr, (storeCells a []).run P w = .ok () w := fun a => rfl
        rcases hkind with ⟨e', hk⟩ | hk
        · cases base <;> simp [Builtin.append_, run_underlying hul, run_underlying hk, run_sizeOf' hte, n3, hnc, hf0, hsto, hn0]
        · cases base <;> simp [Builtin.append_, run_underlying hul, run_underlying hk, run_sizeOf' hte, n3, hnc, hf0, hsto, hn0]
      cases s <;> simp only [rowsOf] at hold <;> simp only [RV] at hs <;> (try cases hold) <;> cases h
      · exact key _ _ _ hs (Nat.le_refl _)
      · obtain ⟨a, e⟩ := hs; exact key _ _ _ e (Nat.le_refl _)
      · obtain ⟨_, a, c', e, h', _⟩ := hs; exact key _ _ _ e h'
      · obtain ⟨_, a, c', e, h', _⟩ := hs; exact key _ _ _ e h'
    · rename_i hd1 tl1
      have hne : 0 < (hd1 :: tl1).length := by simp
      generalize hnl : (hd1 :: tl1) = new' at *
      have fresh : old = [] → ∀ (base : Option Addr), vs = .slice base 0 0 → newRows ei.size new' (fun i => .sl i 0 new'.length) H nx = some (y, H', nx') → OutN ρ H U w y H' nx nx' ((Builtin.append_ #[t, t2] ty #[vs, vx]).run P w) := by
        intro ho base hvs hnr
        subst ho
        obtain ⟨k1, k2, k3, k4, k5⟩ := newRows_some hnr
        subst k3; subst k4; subst k5
        have ho0 : olds = [] := by have := o2; simp at this; exact this
        obtain ⟨z, cs, g1, g2, g3, g4, g5⟩ := grow base 0 hvs (by simpa using hne) k1 (fun row hr => (k2 row hr).2)
        simp only [List.length_nil, Nat.zero_add] at g2 g3 g4 g5
        rw [g3]
        refine Out.n (new_slice hn R k1 n5 cs e _ _ g5 g4 g5 (fun b hb => heap_push_lt w _ hb) (0, 0) (noFr _) (heap_push_new w _) rfl rfl rfl ?_)
        intro r row j x hr hj
        obtain ⟨v, h1, h2⟩ := (RVs_iff.1 n1).2 _ x (flat_get n5 hr hj)
        refine ⟨v, ?_, h2⟩
        rw [g2, ho0, List.nil_append]
        have hlt := (List.getElem?_eq_some_iff.1 h1).1
        rw [Array.getElem?_append_left (by simpa using hlt)]
        simpa using h1
      split at h
      · simp only [rowsOf, Option.some.injEq] at hold
        simp only [RV] at hs
        exact fresh hold.symm _ hs h
      · simp only [rowsOf, Option.some.injEq] at hold
        simp only [RV] at hs
        obtain ⟨a, hs⟩ := hs
        exact fresh hold.symm _ hs h
      · rename_i i r n
        obtain ⟨k1, k2, k3, k4, k5⟩ := newRows_some h
        subst k3; subst k4; subst k5
        have hleafN : ∀ row ∈ new', row.all AV.leaf = true := fun row hr => (k2 row (List.mem_append_right _ hr)).2
        have hleafO : ∀ row ∈ old, row.all AV.leaf = true := fun row hr => (k2 row (List.mem_append_left _ hr)).2
        simp only [RV] at hs
        obtain ⟨hi, a, c, hvs, hnc, ha⟩ := hs
        simp only [rowsOf] at hold
        cases hg : H.get i with
        | none => simp [hg] at hold
        | some ob =>
          cases ob <;> simp only [hg] at hold <;> try cases hold
          rename_i sz' rs
          cases hb2 : (Nat.beq ei.size sz' && Nat.ble (r + n) rs.length) with
          | false => rw [hb2, cond_false] at hold; cases hold
          | true =>
            rw [hb2, cond_true] at hold
            simp only [Bool.and_eq_true] at hb2
            have e1 := beqT hb2.1
            have e2 := bleT hb2.2
            cases hold
            subst e1
            obtain ⟨rfl, cs0, tc, fr, hh0, hcap⟩ := ha _ _ hg
            have hol : ((rs.drop r).take n).length = n := by simp; omega
            obtain ⟨_, hbn, _, cs1, t1, fr1, hh1, hfz, hfit, hrs⟩ := R.obj i _ hi hg
            rw [hh0] at hh1
            cases hh1
            obtain ⟨vs0, p1, p2, p3⟩ := RRs_vals (RRs_sub (r := r) (n := n) hrs)
            generalize hod : (rs.drop r).take n = old at *
            subst hol
            have hall : ∀ row ∈ old ++ new', row.length = ei.size := fun row hr => (k2 row hr).1
            have hmul : (r + old.length) * ei.size ≤ rs.length * ei.size := Nat.mul_le_mul_right _ e2
            by_cases hroom : old.length + new'.length ≤ c
            · have hsrc : Src P ii.size t2 vx new'.length news w := ⟨hkind, n3, by
                  have := n4 new'.length w rfl (Nat.le_refl _)
                  rw [← n2, List.take_length, q3] at this
                  exact this, by
                  have := n4 new'.length w.drew rfl (Nat.le_refl _)
                  rw [← n2, List.take_length, q3] at this
                  exact this, by rw [n2, q3], oneCell_of_leaves (leaves_flatten hleafN) n1⟩
              have hmul2 : (r + (old.length + new'.length)) * ei.size ≤ (r + c) * ei.size := Nat.mul_le_mul_right _ (by omega)
              have m1 : (r + (old.length + new'.length)) * ei.size = r * ei.size + (old.length * ei.size + new'.length * ei.size) := by rw [Nat.add_mul, Nat.add_mul]
              have hst := run_storeCells_fz P (ρ i).b ((ρ i).o + r * ei.size + old.length * ei.size) tc fr news 0 cs0 w hh0 hfz (by omega) (oneCell_of_leaves (leaves_flatten hleafN) n1)
              simp only [Nat.add_zero] at hst
              have hcells : ∀ k, ((cs0.toList.take ((ρ i).o + r * ei.size + old.length * ei.size) ++ news ++ cs0.toList.drop ((ρ i).o + r * ei.size + old.length * ei.size + news.length)).toArray)[k]? = if k < (ρ i).o + r * ei.size + old.length * ei.size then cs0[k]? else if k < (ρ i).o + r * ei.size + old.length * ei.size + news.length then news[k - ((ρ i).o + r * ei.size + old.length * ei.size)]? else cs0[k]? := by
                intro k
                rw [List.getElem?_toArray, getElem?_mid cs0.toList _ news (by simp; omega)]
                simp
              have hsize : ((cs0.toList.take ((ρ i).o + r * ei.size + old.length * ei.size) ++ news ++ cs0.toList.drop ((ρ i).o + r * ei.size + old.length * ei.size + news.length)).toArray).size = cs0.size := by
                simp
                omega
              generalize hcs' : (cs0.toList.take ((ρ i).o + r * ei.size + old.length * ei.size) ++ news ++ cs0.toList.drop ((ρ i).o + r * ei.size + old.length * ei.size + news.length)).toArray = cs' at *
              have hrun := run_append_room_st (P := P) w _ t t2 ty e ii hul q1 (ρ i).b ((ρ i).o + r * ei.size) old.length c vx new'.length news hsrc hroom (by rw [← q3]; exact hst)
              have hh' : (w.setRow (ρ i).b cs').heap[(ρ i).b]? = some (.cells cs' tc fr) := setRow_heap w _ cs0 cs' tc fr hh0
              have hnb : ∀ b, b < w.heap.size → b ≠ (ρ i).b → (w.setRow (ρ i).b cs').heap[b]? = w.heap[b]? := fun b _ hb => heap_setRow_ne w hb cs'
              have X : Ext ρ H U w (atNew ρ nx ⟨(ρ i).b, (ρ i).o + r * ei.size⟩) ((H.del i).set nx (.rows ei.size (old ++ new'))) (Use nx U) (w.setRow (ρ i).b cs') :=
                Ext.turn hn R hi hg (.inl rfl) hnb (by rw [size_setRow]; exact Nat.le_refl _) rfl rfl rfl
              refine Out.n ⟨_, _, atNew ρ nx ⟨(ρ i).b, (ρ i).o + r * ei.size⟩, by rw [hvs]; exact hrun, ?_, ?_, X⟩
              · simp only [RV]
                refine ⟨.inl rfl, _, c, rfl, hroom, fun sz' rs' hg' => ?_⟩
                rw [Tr.get_set, if_pos rfl] at hg'
                cases hg'
                rw [atNew_new]
                refine ⟨by simp, cs', tc, fr, hh', ?_⟩
                have m2 : (r + c) * ei.size = r * ei.size + c * ei.size := by rw [Nat.add_mul]
                simp only [Nat.zero_add]
                omega
              · refine Rel.turn hn R hi hg X (.inl rfl) hnb (by rw [size_setRow]; exact hbn) ?_
                have m2 : (old.length + new'.length) * ei.size = old.length * ei.size + new'.length * ei.size := by rw [Nat.add_mul]
                refine ⟨k1, cs', tc, fr, hh', by rw [hsize]; exact hfz, by simp only [List.length_append]; omega, ?_⟩
                rw [RRs_iff]
                intro r' row hr
                refine ⟨hall row (List.mem_of_getElem? hr), ?_⟩
                rw [RR_iff]
                intro j x hj
                have hfl := flat_get hall hr hj
                rw [List.flatten_append] at hfl
                obtain ⟨v, h1, h2⟩ := (RVs_iff.1 (RVs_append p1 n1)).2 _ x hfl
                refine ⟨v, ?_, RV.mono X.toExt0 _ _ h2⟩
                dsimp only
                rw [cell?_heap hh', hcells]
                by_cases hlt : r' * ei.size + j < vs0.length
                · rw [List.getElem?_append_left hlt] at h1
                  have := p3 _ v h1
                  rw [cell?_heap hh0] at this
                  rw [if_pos (by omega), ← this]
                  congr 1
                  omega
                · rw [List.getElem?_append_right (by omega)] at h1
                  have hlt2 := (List.getElem?_eq_some_iff.1 h1).1
                  rw [if_neg (by omega), if_pos (by omega), ← h1]
                  congr 1
                  omega
            · obtain ⟨z, cs, g1, g2, g3, g4, g5⟩ := grow _ c hvs (by omega) k1 hleafN
              rw [g3]
              refine Out.n (Out.viaDel (new_slice hn (R.del i) k1 hall cs e _ _ g5 g4 (by rw [List.length_append]; exact g5) (fun b hb => heap_push_lt w _ hb) (0, 0) (noFr _) (heap_push_new w _) rfl rfl rfl ?_))
              intro r' row j x hr hj
              have hfl := flat_get hall hr hj
              rw [List.flatten_append] at hfl
              obtain ⟨v, h1, h2⟩ := (RVs_iff.1 (RVs_append o1 n1)).2 _ x hfl
              refine ⟨v, ?_, RV.mono (Ext.del i).toExt0 _ _ h2⟩
              rw [g2]
              have hlt := (List.getElem?_eq_some_iff.1 h1).1
              rw [Array.getElem?_append_left (by simpa using hlt)]
              simpa using h1
      · cases h
end
end Go.Cl
