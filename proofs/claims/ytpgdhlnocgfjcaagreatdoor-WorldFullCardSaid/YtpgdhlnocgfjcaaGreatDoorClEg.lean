/- Functions with an answer of their own: the keys of a map, sorted. -/
import Derived.Test.YtpgdhlnocgfjcaaGreatDoorClEf
import Derived.Lib.SlKeysI
import Derived.Maps.Own
set_option linter.unusedSimpArgs false
set_option linter.unusedVariables false
set_option linter.unusedSectionVars false
namespace Go.Cl
open Go.RowKit Go.Maps

/-! ### Sorted -/
def insN (x : Nat) : List Nat → List Nat
  | [] => [x]
  | y :: l => bif Nat.ble x y then x :: y :: l else y :: insN x l
def sortN : List Nat → List Nat
  | [] => []
  | x :: l => insN x (sortN l)
theorem insN_perm (x : Nat) : ∀ l, (insN x l).Perm (x :: l)
  | [] => List.Perm.refl _
  | y :: l => by
    unfold insN
    cases Nat.ble x y with
    | true => exact List.Perm.refl _
    | false => exact ((insN_perm x l).cons y).trans (List.Perm.swap x y l)
theorem sortN_perm : ∀ l, (sortN l).Perm l
  | [] => List.Perm.refl _
  | x :: l => (insN_perm x (sortN l)).trans ((sortN_perm l).cons x)
theorem insN_sorted (x : Nat) : ∀ l : List Nat, l.Pairwise (· ≤ ·) → (insN x l).Pairwise (· ≤ ·)
  | [], _ => by simp [insN]
  | y :: l, h => by
    unfold insN
    cases hb : Nat.ble x y with
    | true =>
      have hxy := bleT hb
      rw [cond_true, List.pairwise_cons]
      refine ⟨fun z hz => ?_, h⟩
      rcases List.mem_cons.1 hz with rfl | hz
      · exact hxy
      · exact Nat.le_trans hxy ((List.pairwise_cons.1 h).1 z hz)
    | false =>
      have hxy : ¬ x ≤ y := fun h => by rw [Nat.ble_eq_true_of_le h] at hb; cases hb
      rw [cond_false, List.pairwise_cons]
      refine ⟨fun z hz => ?_, insN_sorted x l (List.pairwise_cons.1 h).2⟩
      rcases List.mem_cons.1 ((insN_perm x l).mem_iff.1 hz) with rfl | hz
      · omega
      · exact (List.pairwise_cons.1 h).1 z hz
theorem sortN_sorted : ∀ l, (sortN l).Pairwise (· ≤ ·)
  | [] => List.Pairwise.nil
  | x :: l => insN_sorted x _ (sortN_sorted l)

/-- What Go sorts. -/
theorem sort_eq {ks : List Nat} {ss : List Int} (h : ss.Perm (ks.map Int.ofNat)) : ss.mergeSort (fun x y => decide (x ≤ y)) = (sortN ks).map Int.ofNat := by
  refine List.Perm.eq_of_pairwise (le := fun a b : Int => a ≤ b) (fun a b _ _ h1 h2 => by omega) ?_ ?_ ?_
  · have := List.pairwise_mergeSort (le := fun x y : Int => decide (x ≤ y)) (fun a b c h1 h2 => by simp at h1 h2 ⊢; omega) (fun a b => by simp; omega) ss
    exact this.imp (fun h => by simpa using h)
  · rw [List.pairwise_map]
    exact (sortN_sorted ks).imp (fun h => Int.ofNat_le.2 h)
  · exact ((List.mergeSort_perm ss _).trans h).trans ((sortN_perm ks).symm.map _)

/-! ### A map's keys -/
def keysN : List (AV × AV) → Option (List Nat)
  | [] => some []
  | (.int .i64 (.ofNat n), _) :: es => bif Nat.ble n 9223372036854775807 then (match keysN es with | some l => some (n :: l) | none => none) else none
  | _ => none
def primSorted (gs : List Nat) : PrimA := fun args H nx => match args with
  | [.fn g [] [.it i]] => bif gs.any (Nat.beq g) then (match H.get i with
    | some (.box (.map m)) => (match H.get m with
      | some (.map es) => (match keysN es with
        | some [] => some (.nils, H, nx)
        | some ks => bif Nat.ble ks.length 1000000 then some (.sl nx 0 ks.length, H.set nx (.rows 1 ((sortN ks).map fun n => [.int .i64 (.ofNat n)])), nx + 1) else none
        | none => none)
      | _ => none)
    | _ => none) else none
  | _ => none

section
variable {ρ : Nat → Loc} {H : Heap} {U : Gh} {w : World}
theorem keysN_spec : ∀ {es : List (AV × AV)} {ks : List Nat} {p : List MapEntry}, keysN es = some ks → MRs ρ H U w es p → p.map (·.key) = ks.map (fun n => .int .i64 (Int.ofNat n)) ∧ (∀ n ∈ ks, n ≤ 9223372036854775807) ∧ es.map (·.1) = ks.map (fun n => .int .i64 (Int.ofNat n))
  | [], ks, p, h, hm => by
    simp only [keysN, Option.some.injEq] at h
    subst h
    simp only [MRs] at hm
    subst hm
    simp
  | e :: es, ks, p, h, hm => by
    unfold keysN at h
    split at h
    · rename_i heq; cases heq
    · rename_i n v es' heq
      cases heq
      rw [Bool.cond_eq_ite] at h
      split at h
      case isFalse => cases h
      rename_i hn
      split at h <;> cases h
      rename_i l hl
      obtain ⟨e', r, rfl, h1, h2, h3⟩ := hm
      obtain ⟨k1, k2, k3⟩ := keysN_spec hl h3
      simp only [RV] at h1
      refine ⟨by simp [h1, k1], fun m hm => ?_, by simp [k3]⟩
      rcases List.mem_cons.1 hm with rfl | hm
      · exact bleT hn
      · exact k2 m hm
    · cases h

theorem insert_perm {α : Type} (x : Lit × DataW α) : ∀ l, (DataW.insert x l).Perm (x :: l)
  | [] => List.Perm.refl _
  | y :: l => by
    unfold DataW.insert
    split
    · exact List.Perm.refl _
    · exact ((insert_perm x l).cons y).trans (List.Perm.swap x y l)
theorem foldr_insert_perm {α : Type} : ∀ l : List (Lit × DataW α), (l.foldr DataW.insert []).Perm l
  | [] => List.Perm.refl _
  | x :: l => (insert_perm x _).trans ((foldr_insert_perm l).cons x)

/-- A map of the abstract heap, as the kit has it. -/
theorem own_map {P : Program} {m : Nat} (hi : P.underlying 3 = some (.int .i64)) {es : List (AV × AV)} {ks : List Nat} (hk : keysN es = some ks) (hlen : ks.length ≤ 1000000) {R0 : Value → Option (DataW Unit × List MemPlace)} (hR : ∀ v, R0 v = some (.lit (.bool true), []))
    (h : ORel ρ H U w (ρ m) (.map es)) : ∃ D0 : DataW Unit, w.ownsMap P 3 R0 (ρ m).b ks.length D0 ∧ Maps.size D0 = ks.length ∧ ((intKeys D0).Perm (ks.map Int.ofNat)) := by
  obtain ⟨es', c, p, h1, h2, h3, h4, h5, h6⟩ := h
  obtain ⟨k1, k2, k3⟩ := keysN_spec hk h3
  have hkey : ∀ x ∈ es'.toList, ∃ n : Nat, x.key = .int .i64 (Int.ofNat n) ∧ n ≤ 9223372036854775807 := by
    intro x hx
    have hx2 : x ∈ p := h2.mem_iff.2 hx
    have : x.key ∈ p.map (·.key) := List.mem_map.2 ⟨x, hx2, rfl⟩
    rw [k1] at this
    obtain ⟨n, hn, he⟩ := List.mem_map.1 this
    exact ⟨n, he.symm, k2 n hn⟩
  have hrd : ∀ x ∈ es'.toList, ∀ n : Nat, x.key = .int .i64 (Int.ofNat n) → n ≤ 9223372036854775807 → WideElems.rd P 3 R0 x = some (.int .i64 (Int.ofNat n), .lit (.bool true)) := by
    intro x hx n hn hle
    unfold WideElems.rd
    rw [hn, keyOf_int_mk hi (by
      simp only [Lit.wf, Bool.and_eq_true, decide_eq_true_eq]
      constructor
      · show (-9223372036854775808 : Int) ≤ Int.ofNat n
        exact Int.le_trans (by decide) (Int.natCast_nonneg n)
      · show Int.ofNat n ≤ (9223372036854775807 : Int)
        exact Int.ofNat_le.2 hle)]
    simp [hR]
  have hsz : es'.size = ks.length := by
    have e1 : p.length = es'.toList.length := h2.length_eq
    have e2 : p.length = ks.length := by
      have := congrArg List.length k1
      simpa using this
    simp at e1
    omega
  -- keys are pairwise different
  have hnod : (es'.toList.map (·.key)).Nodup := by
    have hp : (p.map (·.key)).Nodup := by
      rw [k1]
      have hes : (es.map (·.1)).Pairwise (fun a b => keyEq a b = false) := by
        rw [List.pairwise_map]
        exact h4
      rw [k3, List.pairwise_map] at hes
      unfold List.Nodup
      rw [List.pairwise_map]
      refine hes.imp fun {a b} hab e => ?_
      simp only [Value.int.injEq, true_and] at e
      have : a = b := Int.ofNat.inj e
      subst this
      simp [keyEq, sameKind] at hab
    exact (h2.map (·.key)).nodup_iff.1 hp
  have hfit : WideElems.Fit P 3 R0 es' c := by
    refine ⟨by rw [hsz]; exact Nat.le_trans hlen (by decide), ⟨h6, h5, hnod⟩, fun x hx => ?_⟩
    obtain ⟨n, hn, hle⟩ := hkey x hx
    exact ⟨_, hrd x hx n hn hle⟩
  refine ⟨.map ((es'.toList.map (WideElems.rg P 3 R0)).foldr DataW.insert []), ⟨es', c, h1, hfit, by omega, rfl⟩, ?_, ?_⟩
  · show (List.foldr DataW.insert [] _).length = _
    rw [(foldr_insert_perm _).length_eq]
    simp [hsz]
  · show (List.map (fun q => intOf q.1) (List.foldr DataW.insert [] _)).Perm _
    refine ((foldr_insert_perm _).map _).trans ?_
    rw [List.map_map]
    have e : (es'.toList.map ((fun q : Lit × DataW Unit => intOf q.1) ∘ WideElems.rg P 3 R0)).Perm (p.map ((fun q : Lit × DataW Unit => intOf q.1) ∘ WideElems.rg P 3 R0)) := (h2.map _).symm
    refine e.trans ?_
    have e2 : p.map ((fun q : Lit × DataW Unit => intOf q.1) ∘ WideElems.rg P 3 R0) = (p.map (·.key)).map (fun v => match v with | .int _ n => n | _ => 0) := by
      rw [List.map_map]
      refine List.map_congr_left fun x hx => ?_
      obtain ⟨n, hn, hle⟩ := hkey x (h2.mem_iff.1 hx)
      simp only [Function.comp, WideElems.rg_of (hrd x (h2.mem_iff.1 hx) n hn hle), intOf, hn]
    rw [e2, k1, List.map_map]
    have e3 : (List.map ((fun v : Value => match v with | .int _ n => n | _ => 0) ∘ fun n : Nat => Value.int .i64 (Int.ofNat n)) ks) = ks.map Int.ofNat := List.map_congr_left fun n _ => rfl
    rw [e3]
end

/-- maps.Keys: it hands back an iterator's closure. -/
def primKeys (g : Nat) : PrimA := fun args H nx => match args with
  | [.map m] => some (.fn g [] [.it nx], H.set nx (.box (.map m)), nx + 1)
  | _ => none
theorem primKeys_ok {P : Program} {f g : Nat} {t : TypeId} (he : ∀ args w, (callFunc f args).run P w = .ok (.enter f args) w)
    (hc : ∀ (mb : Option Nat) (w : World), Calls P f #[.map mb] w fun e w' => e = .returned (.func (.func g) #[] #[.pointer (some ⟨w.heap.size, 0, none⟩)]) ∧ w' = w.alloc (.cells #[.map mb] t)) : FnOk P f (primKeys g) := by
  intro args H nx y H' nx' hp ρ U w vs R B hv
  unfold primKeys at hp
  split at hp <;> cases hp
  rename_i m
  simp only [RVs, RV] at hv
  obtain ⟨v1, r1, e1, ⟨hU, b, rfl, hb⟩, rfl⟩ := hv
  rw [arr1 e1]
  refine .inr ⟨he _ _, (hc _ w).mono ?_⟩
  rintro e w' ⟨rfl, rfl⟩
  have X : Ext ρ H U w (atNew ρ nx ⟨w.heap.size, 0⟩) (H.set nx (.box (.map m))) (Use nx U) { w with heap := w.heap.push (.cells #[.map (some b)] t) } :=
    Ext.new B.not R (Nat.le_refl _) (fun b hb => heap_push_lt w _ hb) (by simp) rfl rfl rfl
  refine ⟨_, rfl, atNew ρ nx ⟨w.heap.size, 0⟩, Use nx U, ?_, ?_, X, ⟨Nat.le_succ _, fun i hi => hi.elim (fun e => .inr ⟨by omega, by omega⟩) .inl⟩⟩
  · simp only [RV, RVs]
    refine ⟨_, _, rfl, rfl, _, _, rfl, ⟨.inl rfl, _, rfl, fun o hg => ?_⟩, rfl⟩
    rw [atNew_new]
  · refine Rel.new (w' := { w with heap := w.heap.push (.cells #[.map (some b)] t) }) B.not R X (Nat.le_refl _) (fun b hb => heap_push_lt w _ hb) (by simp) ?_
    refine ⟨_, t, (0, 0), heap_push_new w _, ?_⟩
    have hm : RV ρ H U w (.map m) (.map (some b)) := by simp only [RV]; exact ⟨hU, b, rfl, hb⟩
    exact RV.mono X.toExt0 _ _ hm

theorem primSorted_ok {P : Program} {f : Nat} {gs : List Nat} {R0 : Value → Option (DataW Unit × List MemPlace)} (hi : P.underlying 3 = some (.int .i64)) (hR : ∀ v, R0 v = some (.lit (.bool true), [])) (he : ∀ args w, (callFunc f args).run P w = .ok (.enter f args) w)
    (hc : ∀ g ∈ gs, ∀ (Bm b nn : Nat) (D0 : DataW Unit) (w : World), Bm < w.heap.size → w.cell? ⟨Bm, 0, none⟩ = some (.map (some b)) → w.ownsMap P 3 R0 b nn D0 → Maps.size D0 ≤ maxLen → Maps.size D0 * 8 ≤ 140737488355328 →
      Calls P f #[.func (.func g) #[] #[.pointer (some ⟨Bm, 0, none⟩)]] w fun e w' => ∃ (v : Value) (ss : List Int), e = .returned v ∧ ss.Perm (intKeys D0) ∧
        w'.ownsRow w.heap.size 3 1 v ss.length ((ss.mergeSort (fun x y => decide (x ≤ y))).map encZ) ∧ (v = .slice none 0 0 ↔ ss = []) ∧ Below w.heap.size w w') : FnOk P f (primSorted gs) := by
  intro args H nx y H' nx' hp ρ U w vs R B hv
  unfold primSorted at hp
  split at hp
  case h_2 => cases hp
  rename_i g i
  cases hg : gs.any (Nat.beq g) with
  | false => rw [hg, cond_false] at hp; cases hp
  | true =>
    rw [hg, cond_true] at hp
    obtain ⟨g', hg1, hg2⟩ := List.any_eq_true.1 hg
    have := beqT hg2
    subst this
    split at hp
    case h_2 => cases hp
    rename_i m hbx
    split at hp
    case h_2 => cases hp
    rename_i es hes
    -- the arguments
    simp only [RVs, RV] at hv
    obtain ⟨v1, r1, e1, ⟨fs, cs, rfl, hfs, u1, r2, hcs, ⟨hUi, b, rfl, hb⟩, rfl⟩, rfl⟩ := hv
    have hfs' : fs = #[] := Array.toList_inj.1 (by simpa using hfs)
    have hcs' := arr1 hcs
    subst hfs'; subst hcs'
    rw [arr1 e1]
    have hbb := hb _ hbx
    subst hbb
    obtain ⟨_, hlt, v, t, fr, k1, k2⟩ := R.obj i _ hUi hbx
    simp only [RV] at k2
    obtain ⟨hUm, mb, rfl, hmb⟩ := k2
    have hmb := hmb es hes
    subst hmb
    obtain ⟨_, hltm, ho⟩ := R.obj m _ hUm hes
    have hcell : w.cell? ⟨(ρ i).b, 0, none⟩ = some (.map (some (ρ m).b)) := by simp [World.cell?, k1]
    -- what comes out
    have fin : ∀ ks, keysN es = some ks → ks.length ≤ 1000000 → (∀ (v : Value) (w' : World), Below w.heap.size w w' → w'.ownsRow w.heap.size 3 1 v ks.length ((sortN ks).map fun n => Value.int .i64 (Int.ofNat n)) → (v = .slice none 0 0 ↔ ks = []) → Ret ρ H U w y H' nx nx' v w') →
        Calls P f #[.func (.func g) #[] #[.pointer (some ⟨(ρ i).b, 0, none⟩)]] w fun e w' => ∃ v, e = .returned v ∧ Ret ρ H U w y H' nx nx' v w' := by
      intro ks hk hl hfin
      obtain ⟨D0, d1, d2, d3⟩ := own_map (R0 := R0) hi hk hl hR ho
      refine (hc g hg1 _ _ _ D0 w hlt hcell d1 (by rw [d2]; exact Nat.le_trans hl (by decide)) (by rw [d2]; omega)).mono ?_
      rintro e w' ⟨v, ss, rfl, p1, p2, p3, p4⟩
      have hp := p1.trans d3
      have hlen : ss.length = ks.length := by simpa using hp.length_eq
      rw [sort_eq hp, hlen] at p2
      refine ⟨v, rfl, hfin v w' p4 (by rw [List.map_map] at p2; exact p2) ?_⟩
      rw [p3]
      constructor
      · intro h0; rw [h0] at hlen; exact List.eq_nil_of_length_eq_zero (by simpa using hlen.symm)
      · intro h0; rw [h0] at hlen; exact List.eq_nil_of_length_eq_zero (by simpa using hlen)
    refine .inr ⟨he _ _, ?_⟩
    split at hp
    · rename_i hk
      cases hp
      refine fin [] hk (by simp) fun v w' hbl hown hnil => ?_
      have := hnil.2 rfl
      subst this
      exact ⟨ρ, U, by simp only [RV], below_rel R hbl, below_ext R hbl, Grow.refl _ _⟩
    · rename_i ks hne hk
      cases hl : Nat.ble ks.length 1000000 with
      | false => rw [hl, cond_false] at hp; cases hp
      | true =>
        rw [hl, cond_true] at hp
        cases hp
        refine fin ks hk (bleT hl) fun v w' hbl hown hnil => ?_
        have hks : ks ≠ [] := fun e => hne e
        have hsl : (sortN ks).length = ks.length := (sortN_perm ks).length_eq
        obtain ⟨o1, o2⟩ := hown
        rcases o2 with ⟨_, h0⟩ | ⟨gb, cap, cur, rfl, q1, q2, q3, q4, q5, q6⟩
        · exact absurd (List.eq_nil_of_length_eq_zero h0) hks
        · have hgl : gb < w'.heap.size := (Array.getElem?_eq_some_iff.1 q2).1
          have X : Ext ρ H U w (atNew ρ nx ⟨gb, 0⟩) (H.set nx (.rows 1 ((sortN ks).map fun n => [.int .i64 (.ofNat n)]))) (Use nx U) w' :=
            Ext.new B.not R q1 hbl.block hbl.size hbl.os hbl.tape hbl.output
          refine ⟨atNew ρ nx ⟨gb, 0⟩, Use nx U, ?_, ?_, X, ⟨Nat.le_succ _, fun i hi => hi.elim (fun e => .inr ⟨by omega, by omega⟩) .inl⟩⟩
          · simp only [RV]
            refine ⟨.inl rfl, _, _, rfl, q3, fun sz rs hg => ?_⟩
            rw [Tr.get_set, if_pos rfl] at hg
            cases hg
            rw [atNew_new]
            exact ⟨by simp, cur, 3, (0, 0), q2, by simp [q5]⟩
          · refine Rel.new B.not R X q1 hbl.block hgl ?_
            refine ⟨Nat.one_pos, cur, 3, (0, 0), q2, noFr _, ?_, ?_⟩
            · simp only [List.length_map, hsl]
              omega
            · rw [RRs_iff]
              intro r row hr
              simp only [List.getElem?_map, Option.map_eq_some_iff] at hr
              obtain ⟨n, hn, rfl⟩ := hr
              refine ⟨rfl, ?_⟩
              simp only [RR, and_true]
              refine ⟨.int .i64 (.ofNat n), ?_, by simp only [RV]⟩
              have hc : (cur.toList.take (ks.length * 1))[r]? = some (.int .i64 (Int.ofNat n)) := by
                rw [q6, List.getElem?_map, hn]
                rfl
              have hr2 : r < ks.length := by
                have := (List.getElem?_eq_some_iff.1 hn).1
                omega
              rw [List.getElem?_take_of_lt (by omega)] at hc
              rw [cell?_heap q2]
              simpa using hc
    · cases hp
end Go.Cl
