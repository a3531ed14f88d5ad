/-
  Modules by rising names: the program's sort (at most twenty), and the reference's. No condition.
-/
import Derived.Test.YtlcggoafbafldaaHistF
set_option linter.unusedVariables false
set_option linter.unusedSimpArgs false
set_option maxRecDepth 20000
namespace Go.Flow
open Go Go.Proofs

theorem less_other : ∀ x y : List UInt8, (!(Op.bytesLess y x || decide (y = x))) = Op.bytesLess x y
  | [], [] => by simp [Op.bytesLess]
  | [], b :: y => by simp [Op.bytesLess]
  | a :: x, [] => by simp [Op.bytesLess]
  | a :: x, b :: y => by
    have ih := less_other x y
    by_cases h1 : a = b
    · subst h1
      have h0 : decide (a < a) = false := by simp
      simp only [Op.bytesLess, h0, Bool.false_or, beq_self_eq_true, Bool.true_and, List.cons.injEq, true_and]
      exact ih
    · have h2 : (b == a) = false := by simpa using fun h : b = a => h1 h.symm
      have h3 : (a == b) = false := by simpa using h1
      have h4 : decide (b :: y = a :: x) = false := by simp; intro h; exact absurd h.symm h1
      simp only [Op.bytesLess, h2, h3, h4, Bool.false_and, Bool.or_false]
      rcases Nat.lt_trichotomy a.toNat b.toNat with h | h | h
      · have e1 : a < b := UInt8.lt_iff_toNat_lt.2 h
        have e2 : ¬ b < a := fun h' => by have := UInt8.lt_iff_toNat_lt.1 h'; omega
        simp [e1, e2]
      · exact absurd (UInt8.toNat_inj.1 h) h1
      · have e1 : b < a := UInt8.lt_iff_toNat_lt.2 h
        have e2 : ¬ a < b := fun h' => by have := UInt8.lt_iff_toNat_lt.1 h'; omega
        simp [e1, e2]

/-- put in from behind: the places so far stand backwards -/
def insR (x : Mod) : List Mod → List Mod
  | [] => [x]
  | y :: r => if Op.bytesLess x.Name y.Name = true then y :: insR x r else x :: y :: r
def sortR (l : List Mod) : List Mod := l.foldl (fun acc x => insR x acc) []
def sortMods (l : List Mod) : List Mod := (sortR l).reverse

theorem insR_length (x : Mod) : ∀ l, (insR x l).length = l.length + 1
  | [] => rfl
  | y :: r => by unfold insR; split <;> simp [insR_length x r]
theorem foldl_length : ∀ (l acc : List Mod), (l.foldl (fun acc x => insR x acc) acc).length = acc.length + l.length
  | [], acc => by simp
  | x :: r, acc => by simp only [List.foldl_cons, foldl_length r, insR_length, List.length_cons]; omega
theorem sortR_length (l : List Mod) : (sortR l).length = l.length := by rw [sortR, foldl_length]; simp
theorem sortR_snoc (l : List Mod) (x : Mod) : sortR (l ++ [x]) = insR x (sortR l) := by simp [sortR]
theorem cmpS_neg (x y : List UInt8) : (cmpS x y < 0) ↔ Op.bytesLess x y = true := by
  unfold cmpS
  split
  · simp_all
  · split <;> simp_all

theorem get_mid {α : Type} (a : List α) (x : α) (r : List α) : (a ++ x :: r)[a.length]? = some x := by simp
theorem set_mid {α : Type} (a : List α) (x z : α) (r : List α) : (a ++ x :: r).set a.length z = a ++ z :: r := by simp

theorem swap_places (q : List Mod) (x y : Mod) (r : List Mod) : (((y :: q).reverse ++ x :: r).set (q.length + 1) y).set q.length x = q.reverse ++ x :: (y :: r) := by
  have h1 := set_mid ((y :: q).reverse) x y r
  rw [List.length_reverse, List.length_cons] at h1
  rw [h1, List.reverse_cons, List.append_assoc]
  have h2 := set_mid q.reverse y x (y :: r)
  rw [List.length_reverse] at h2
  exact h2

theorem sort_first (l : List Mod) : (sortR (l.take 1)).reverse ++ l.drop 1 = l := by
  cases l with
  | nil => rfl
  | cons x r => simp [sortR, insR]

/-- slices.insertionSortCmpFunc: of a whole row -/
theorem c47 (b : Nat) (l : List Mod) (hl : l.length ≤ 1000000000000) (H : Heap) (hb : H b = some (.arr 2 (l.map eMod)))
    (K : AV → Heap → Prop) (hk : K (.tup []) (H.upd b (.arr 2 ((sortMods l).map eMod)))) : ACalls Try.prog 47 [.slr b 2 0 l.length, int 0, int l.length, .fn 32 [] []] H K := by
  have hlen : ((l.length - 0 : Nat) : Int) = l.length := by omega
  refine ACalls.of_code Try.func47 rfl (by kernel_rfl) rfl (by simp [Try.ntmps47]) ?_
  rw [Try.ntmps47, Try.results47]; simp -implicitDefEqProofs only [go_sem, ↓reduceIte, Nat.reduceEqDiff, Nat.reduceAdd, Nat.reduceSub, Nat.reduceMul, Nat.reduceLeDiff, reduceCtorEq, Bool.false_eq_true, Nat.reduceLT, aAppend]
  refine ACode.seq ?_
  refine ACode.region [0, 1, 2, 3, 8] rfl fun K1 hK => ?_
  simp -implicitDefEqProofs only [go_sem, ↓reduceIte, Nat.reduceEqDiff, Nat.reduceAdd, Nat.reduceSub, Nat.reduceMul, Nat.reduceLeDiff, reduceCtorEq, Bool.false_eq_true, Nat.reduceLT, aAppend]
  rw [wrap_i64 (by omega) (by omega)]
  refine hK _ _ ?_ _ (by simp -implicitDefEqProofs only [go_sem, ↓reduceIte, Nat.reduceEqDiff, Nat.reduceAdd, Nat.reduceSub, Nat.reduceMul, Nat.reduceLeDiff, reduceCtorEq, Bool.false_eq_true, Nat.reduceLT]; rfl); clear hK K1
  refine ACode.block ?_
  refine ACode.loop (fun m ρ H' => ∃ (i : Nat), m = l.length - i ∧ 1 ≤ i ∧ H' = H.upd b (.arr 2 (((sortR (l.take i)).reverse ++ l.drop i).map eMod)) ∧ ρ = [(0, .slr b 2 0 l.length), (1, int 0), (2, int l.length), (3, .fn 32 [] []), (8, int i)]) (l.length - 1) ⟨1, rfl, by omega, ?_, by simp [int]⟩ ?_
  · rw [sort_first, Heap.upd_id hb]
  rintro m ρ H' ⟨i, rfl, hi1, rfl, rfl⟩
  simp -implicitDefEqProofs only [go_sem, ↓reduceIte, Nat.reduceEqDiff, Nat.reduceAdd, Nat.reduceSub, Nat.reduceMul, Nat.reduceLeDiff, reduceCtorEq, Bool.false_eq_true, Nat.reduceLT, aAppend]
  refine ACode.seq ?_
  refine ACode.seq ?_
  refine ACode.region [0, 1, 2, 3, 8, 14] rfl fun K1 hK => ?_
  simp -implicitDefEqProofs only [go_sem, ↓reduceIte, Nat.reduceEqDiff, Nat.reduceAdd, Nat.reduceSub, Nat.reduceMul, Nat.reduceLeDiff, reduceCtorEq, Bool.false_eq_true, Nat.reduceLT, aAppend]
  refine hK _ _ ?_ _ (by simp -implicitDefEqProofs only [go_sem, ↓reduceIte, Nat.reduceEqDiff, Nat.reduceAdd, Nat.reduceSub, Nat.reduceMul, Nat.reduceLeDiff, reduceCtorEq, Bool.false_eq_true, Nat.reduceLT]; rfl); clear hK K1
  refine ACode.cond rfl (fun h => ?_) (fun h => ?_)
  · -- yes
    try simp only [decide_eq_true_eq] at h
    obtain ⟨x, hx, hd, hm, ht⟩ := at_drop l i (by omega)
    have hql : (sortR (l.take i)).length = i := by rw [sortR_length, List.length_take]; omega
    refine ACode.skip ?_
    refine ACode.seq ?_
    refine ACode.block ?_
    refine ACode.seq ?_
    refine ACode.region [0, 1, 2, 3, 8, 9] rfl fun K1 hK => ?_
    simp -implicitDefEqProofs only [go_sem, ↓reduceIte, Nat.reduceEqDiff, Nat.reduceAdd, Nat.reduceSub, Nat.reduceMul, Nat.reduceLeDiff, reduceCtorEq, Bool.false_eq_true, Nat.reduceLT, aAppend]
    refine hK _ _ ?_ _ (by simp -implicitDefEqProofs only [go_sem, ↓reduceIte, Nat.reduceEqDiff, Nat.reduceAdd, Nat.reduceSub, Nat.reduceMul, Nat.reduceLeDiff, reduceCtorEq, Bool.false_eq_true, Nat.reduceLT]; rfl); clear hK K1
    refine ACode.block ?_
    refine ACode.loop (fun m ρ H' => ∃ (p q : List Mod), m = q.length ∧ insR x (sortR (l.take i)) = p ++ insR x q ∧ p.length + q.length = i ∧ H' = H.upd b (.arr 2 ((q.reverse ++ x :: (p.reverse ++ l.drop (i + 1))).map eMod)) ∧ ρ = [(0, .slr b 2 0 l.length), (1, int 0), (2, int l.length), (3, .fn 32 [] []), (8, int i), (9, int q.length)]) (sortR (l.take i)).length ⟨[], sortR (l.take i), rfl, rfl, by simp [hql], by rw [hd]; rfl, by rw [hql]; rfl⟩ ?_
    rintro m ρ H' ⟨p, q, rfl, hins, hpq, rfl, rfl⟩
    simp -implicitDefEqProofs only [go_sem, ↓reduceIte, Nat.reduceEqDiff, Nat.reduceAdd, Nat.reduceSub, Nat.reduceMul, Nat.reduceLeDiff, reduceCtorEq, Bool.false_eq_true, Nat.reduceLT, aAppend]
    refine ACode.seq ?_
    refine ACode.seq ?_
    refine ACode.draw_cut [0, 1, 2, 3, 8, 9, 34] [(0, 0), (1, 0), (2, 0), (3, 0), (4, 0), (5, 0), (6, 0), (7, 0), (9, 0), (10, 0), (11, 0), (12, 0), (8, 1), (13, 1), (14, 2), (15, 0), (16, 0)] (fun ρ' H1 => ∃ t : Bool, (t = true ↔ ∃ y q', q = y :: q' ∧ Op.bytesLess x.Name y.Name = true) ∧ H1 = H.upd b (.arr 2 ((q.reverse ++ x :: (p.reverse ++ l.drop (i + 1))).map eMod)) ∧ ρ' = [(0, .slr b 2 0 l.length), (1, int 0), (2, int l.length), (3, .fn 32 [] []), (8, int i), (9, int q.length), (34, boo t)]) (by kernel_rfl) (by kernel_rfl) rfl (by kernel_rfl) (fun K1 hK => ?_) ?_
    · rcases q with _ | ⟨y, q'⟩
      · have hd1 : decide ((0 : Int) < ((0 : Nat) : Int)) = false := by simp
        simp -implicitDefEqProofs only [go_sem, ↓reduceIte, Nat.reduceEqDiff, Nat.reduceAdd, Nat.reduceSub, Nat.reduceMul, Nat.reduceLeDiff, reduceCtorEq, Bool.false_eq_true, Nat.reduceLT, aAppend, hd1]
        refine hK _ _ ⟨false, by simp, rfl, rfl⟩ _ (by simp -implicitDefEqProofs only [go_sem, ↓reduceIte, Nat.reduceEqDiff, Nat.reduceAdd, Nat.reduceSub, Nat.reduceMul, Nat.reduceLeDiff, reduceCtorEq, Bool.false_eq_true, Nat.reduceLT, aAppend] <;> rfl)
      · have hd1 : decide ((0 : Int) < ((q'.length + 1 : Nat) : Int)) = true := by rw [decide_eq_true_eq]; omega
        have e1 : ((q'.length + 1 : Nat) : Int) - 1 = (q'.length : Int) := by omega
        rw [List.length_cons] at hpq
        have g1 : ((y :: q').reverse ++ x :: (p.reverse ++ l.drop (i + 1)))[q'.length + 1]? = some x := by
          have := get_mid (y :: q').reverse x (p.reverse ++ l.drop (i + 1)); rwa [List.length_reverse, List.length_cons] at this
        have g2 : ((y :: q').reverse ++ x :: (p.reverse ++ l.drop (i + 1)))[q'.length]? = some y := by
          rw [List.reverse_cons, List.append_assoc]
          have := get_mid q'.reverse y ([] ++ x :: (p.reverse ++ l.drop (i + 1))); rwa [List.length_reverse] at this
        generalize hdat : ((y :: q').reverse ++ x :: (p.reverse ++ l.drop (i + 1))) = dat at *
        simp -implicitDefEqProofs only [go_sem, ↓reduceIte, Nat.reduceEqDiff, Nat.reduceAdd, Nat.reduceSub, Nat.reduceMul, Nat.reduceLeDiff, reduceCtorEq, Bool.false_eq_true, Nat.reduceLT, aAppend, hd1]
        rw [wrap_i64 (by omega) (by omega), e1]
        simp -implicitDefEqProofs only [go_sem, ↓reduceIte, Nat.reduceEqDiff, Nat.reduceAdd, Nat.reduceSub, Nat.reduceMul, Nat.reduceLeDiff, reduceCtorEq, Bool.false_eq_true, Nat.reduceLT, aAppend, Heap.upd_same, g1, g2, eMod]
        refine ⟨by omega, by omega, ?_⟩
        refine c32 x y _ _ ?_
        simp -implicitDefEqProofs only [go_sem, ↓reduceIte, Nat.reduceEqDiff, Nat.reduceAdd, Nat.reduceSub, Nat.reduceMul, Nat.reduceLeDiff, reduceCtorEq, Bool.false_eq_true, Nat.reduceLT, aAppend]
        refine hK _ _ ⟨decide (cmpS x.Name y.Name < 0), ?_, rfl, rfl⟩ _ (by simp -implicitDefEqProofs only [go_sem, ↓reduceIte, Nat.reduceEqDiff, Nat.reduceAdd, Nat.reduceSub, Nat.reduceMul, Nat.reduceLeDiff, reduceCtorEq, Bool.false_eq_true, Nat.reduceLT, aAppend] <;> rfl)
        simp [cmpS_neg]
    rintro ρ' H1 ⟨t, ht34, rfl, rfl⟩
    refine ACode.cond rfl (fun h => ?_) (fun h => ?_)
    · -- yes
      try simp only [decide_eq_true_eq] at h
      subst h
      obtain ⟨y, q', rfl, hless⟩ := ht34.1 rfl
      have e1 : ((q'.length + 1 : Nat) : Int) - 1 = (q'.length : Int) := by omega
      rw [List.length_cons] at hpq
      have g1 : ((y :: q').reverse ++ x :: (p.reverse ++ l.drop (i + 1)))[q'.length + 1]? = some x := by
        have := get_mid (y :: q').reverse x (p.reverse ++ l.drop (i + 1)); rwa [List.length_reverse, List.length_cons] at this
      have g2 : ((y :: q').reverse ++ x :: (p.reverse ++ l.drop (i + 1)))[q'.length]? = some y := by
        rw [List.reverse_cons, List.append_assoc]
        have := get_mid q'.reverse y ([] ++ x :: (p.reverse ++ l.drop (i + 1))); rwa [List.length_reverse] at this
      have g3 := swap_places q' x y (p.reverse ++ l.drop (i + 1))
      generalize hdat : ((y :: q').reverse ++ x :: (p.reverse ++ l.drop (i + 1))) = dat at *
      refine ACode.skip ?_
      refine ACode.seq ?_
      refine ACode.block ?_
      refine ACode.region_draw [0, 1, 2, 3, 8, 9] [(0, 0), (1, 0), (2, 0), (3, 0), (4, 0), (5, 0), (6, 0), (7, 0), (8, 0), (10, 0), (11, 0), (12, 0), (9, 1), (13, 1), (14, 0), (15, 2), (16, 0), (17, 2)] (by kernel_rfl) (by kernel_rfl) rfl (by kernel_rfl) fun K1 hK => ?_
      simp -implicitDefEqProofs only [go_sem, ↓reduceIte, Nat.reduceEqDiff, Nat.reduceAdd, Nat.reduceSub, Nat.reduceMul, Nat.reduceLeDiff, reduceCtorEq, Bool.false_eq_true, Nat.reduceLT, aAppend]
      rw [wrap_i64 (by omega) (by omega), e1]
      have g4 : ((dat.map eMod).set (q'.length + 1) (.agg [.v (.string (mkS y.Name)), .v (.string (mkS y.Text))]))[q'.length]? = some (.agg [.v (.string (mkS y.Name)), .v (.string (mkS y.Text))]) := by
        rw [List.getElem?_set_ne (by omega), List.getElem?_map, g2]; rfl
      have g5 : ((dat.map eMod).set (q'.length + 1) (.agg [.v (.string (mkS y.Name)), .v (.string (mkS y.Text))])).set q'.length (.agg [.v (.string (mkS x.Name)), .v (.string (mkS x.Text))]) = (q'.reverse ++ x :: y :: (p.reverse ++ l.drop (i + 1))).map eMod := by
        rw [← g3, List.map_set, List.map_set]; rfl
      simp -implicitDefEqProofs only [go_sem, ↓reduceIte, Nat.reduceEqDiff, Nat.reduceAdd, Nat.reduceSub, Nat.reduceMul, Nat.reduceLeDiff, reduceCtorEq, Bool.false_eq_true, Nat.reduceLT, aAppend, Heap.upd_same, g1, g2, g4, eMod]
      refine ⟨by omega, by omega, by omega, by omega, ?_⟩
      rw [g5]
      refine hK _ _ ?_ _ (by simp -implicitDefEqProofs only [go_sem, ↓reduceIte, Nat.reduceEqDiff, Nat.reduceAdd, Nat.reduceSub, Nat.reduceMul, Nat.reduceLeDiff, reduceCtorEq, Bool.false_eq_true, Nat.reduceLT]; rfl); clear hK K1
      refine ACode.region [0, 1, 2, 3, 8, 9] rfl fun K1 hK => ?_
      simp -implicitDefEqProofs only [go_sem, ↓reduceIte, Nat.reduceEqDiff, Nat.reduceAdd, Nat.reduceSub, Nat.reduceMul, Nat.reduceLeDiff, reduceCtorEq, Bool.false_eq_true, Nat.reduceLT, aAppend]
      rw [wrap_i64 (by omega) (by omega), e1]
      refine hK _ _ ?_ _ (by simp -implicitDefEqProofs only [go_sem, ↓reduceIte, Nat.reduceEqDiff, Nat.reduceAdd, Nat.reduceSub, Nat.reduceMul, Nat.reduceLeDiff, reduceCtorEq, Bool.false_eq_true, Nat.reduceLT]; rfl); clear hK K1
      refine ⟨_, ?_, p ++ [y], q', rfl, ?_, ?_, ?_, rfl⟩
      · simp
      · rw [hins, insR, if_pos hless]; simp
      · simp; omega
      · simp
    · -- no
      try simp only [decide_eq_false_iff_not] at h
      subst h
      refine ACode.exit ?_
      have hstop : insR x (sortR (l.take i)) = p ++ x :: q := by
        rw [hins]
        cases q with
        | nil => rfl
        | cons y q' =>
          have : ¬ (Op.bytesLess x.Name y.Name = true) := fun h => by simpa using ht34.2 ⟨y, q', rfl, h⟩
          rw [insR, if_neg this]
      refine ACode.region [0, 1, 2, 3, 8] rfl fun K1 hK => ?_
      simp -implicitDefEqProofs only [go_sem, ↓reduceIte, Nat.reduceEqDiff, Nat.reduceAdd, Nat.reduceSub, Nat.reduceMul, Nat.reduceLeDiff, reduceCtorEq, Bool.false_eq_true, Nat.reduceLT, aAppend]
      rw [wrap_i64 (by omega) (by omega)]
      refine hK _ _ ?_ _ (by simp -implicitDefEqProofs only [go_sem, ↓reduceIte, Nat.reduceEqDiff, Nat.reduceAdd, Nat.reduceSub, Nat.reduceMul, Nat.reduceLeDiff, reduceCtorEq, Bool.false_eq_true, Nat.reduceLT]; rfl); clear hK K1
      refine ⟨_, by omega, i + 1, rfl, by omega, ?_, by simp <;> rfl⟩
      rw [ht, sortR_snoc, hstop]
      simp
  · -- no
    try simp only [decide_eq_false_iff_not] at h
    refine ACode.exit ?_
    have e : ((sortR (l.take i)).reverse ++ l.drop i) = sortMods l := by
      rw [drop_end l i h, take_end l i h, List.append_nil]; rfl
    rw [e]
    simp -implicitDefEqProofs only [go_sem, ↓reduceIte, Nat.reduceEqDiff, Nat.reduceAdd, Nat.reduceSub, Nat.reduceMul, Nat.reduceLeDiff, reduceCtorEq, Bool.false_eq_true, Nat.reduceLT, aAppend]
    exact hk


/-- slices.insertionSortCmpFunc: of at most one place -/
theorem c47z (x f : AV) (hx : ∀ q, x ≠ .tup q) (a n : Int) (h0 : 0 ≤ a) (h1 : a ≤ 1000) (hn : n ≤ a + 1) (H : Heap) (K : AV → Heap → Prop) (hk : K (.tup []) H) : ACalls Try.prog 47 [x, int a, int n, f] H K := by
  refine ACalls.of_code Try.func47 rfl (by kernel_rfl) rfl (by simp [Try.ntmps47]) ?_
  rw [Try.ntmps47, Try.results47]; simp -implicitDefEqProofs only [go_sem, ↓reduceIte, Nat.reduceEqDiff, Nat.reduceAdd, Nat.reduceSub, Nat.reduceMul, Nat.reduceLeDiff, reduceCtorEq, Bool.false_eq_true, Nat.reduceLT, aAppend]
  refine ACode.seq ?_
  refine ACode.region [0, 1, 2, 3, 8] rfl fun K1 hK => ?_
  simp -implicitDefEqProofs only [go_sem, ↓reduceIte, Nat.reduceEqDiff, Nat.reduceAdd, Nat.reduceSub, Nat.reduceMul, Nat.reduceLeDiff, reduceCtorEq, Bool.false_eq_true, Nat.reduceLT, aAppend]
  rw [wrap_i64 (by omega) (by omega)]
  refine hK _ _ ?_ _ (by simp -implicitDefEqProofs only [go_sem, ↓reduceIte, Nat.reduceEqDiff, Nat.reduceAdd, Nat.reduceSub, Nat.reduceMul, Nat.reduceLeDiff, reduceCtorEq, Bool.false_eq_true, Nat.reduceLT]; rfl); clear hK K1
  refine ACode.block ?_
  refine ACode.loop (fun m ρ H' => H' = H ∧ ρ = [(0, x), (1, int a), (2, int n), (3, f), (8, int (a + 1))]) 0 ⟨rfl, rfl⟩ ?_
  rintro m ρ H' ⟨rfl, rfl⟩
  simp -implicitDefEqProofs only [go_sem, ↓reduceIte, Nat.reduceEqDiff, Nat.reduceAdd, Nat.reduceSub, Nat.reduceMul, Nat.reduceLeDiff, reduceCtorEq, Bool.false_eq_true, Nat.reduceLT, aAppend]
  refine ACode.seq ?_
  refine ACode.seq ?_
  refine ACode.region [0, 1, 2, 3, 8, 14] rfl fun K1 hK => ?_
  simp -implicitDefEqProofs only [go_sem, ↓reduceIte, Nat.reduceEqDiff, Nat.reduceAdd, Nat.reduceSub, Nat.reduceMul, Nat.reduceLeDiff, reduceCtorEq, Bool.false_eq_true, Nat.reduceLT, aAppend]
  refine hK _ _ ?_ _ (by simp -implicitDefEqProofs only [go_sem, ↓reduceIte, Nat.reduceEqDiff, Nat.reduceAdd, Nat.reduceSub, Nat.reduceMul, Nat.reduceLeDiff, reduceCtorEq, Bool.false_eq_true, Nat.reduceLT]; rfl); clear hK K1
  refine ACode.cond rfl (fun h => ?_) (fun h => ?_)
  · -- yes
    simp only [decide_eq_true_eq] at h; omega
  · -- no
    try simp only [decide_eq_false_iff_not] at h
    refine ACode.exit ?_
    simp -implicitDefEqProofs only [go_sem, ↓reduceIte, Nat.reduceEqDiff, Nat.reduceAdd, Nat.reduceSub, Nat.reduceMul, Nat.reduceLeDiff, reduceCtorEq, Bool.false_eq_true, Nat.reduceLT, aAppend]
    exact hk


/-- slices.stableCmpFunc: of at most twenty -/
theorem c42 (x : AV) (hx : ∀ q, x ≠ .tup q) (n : Nat) (hn : n ≤ 20) (H H2 : Heap) (hins : ∀ K : AV → Heap → Prop, K (.tup []) H2 → ACalls Try.prog 47 [x, int 0, int n, .fn 32 [] []] H K) (K : AV → Heap → Prop) (hk : K (.tup []) H2) :
    ACalls Try.prog 42 [x, int n, .fn 32 [] []] H K := by
  refine ACalls.of_code Try.func42 rfl (by kernel_rfl) rfl (by simp [Try.ntmps42]) ?_
  rw [Try.ntmps42, Try.results42]; simp -implicitDefEqProofs only [go_sem, ↓reduceIte, Nat.reduceEqDiff, Nat.reduceAdd, Nat.reduceSub, Nat.reduceMul, Nat.reduceLeDiff, reduceCtorEq, Bool.false_eq_true, Nat.reduceLT, aAppend]
  refine ACode.seq ?_
  refine ACode.region [0, 1, 2, 6] rfl fun K1 hK => ?_
  simp -implicitDefEqProofs only [go_sem, ↓reduceIte, Nat.reduceEqDiff, Nat.reduceAdd, Nat.reduceSub, Nat.reduceMul, Nat.reduceLeDiff, reduceCtorEq, Bool.false_eq_true, Nat.reduceLT, aAppend]
  refine hK _ _ ?_ _ (by simp -implicitDefEqProofs only [go_sem, ↓reduceIte, Nat.reduceEqDiff, Nat.reduceAdd, Nat.reduceSub, Nat.reduceMul, Nat.reduceLeDiff, reduceCtorEq, Bool.false_eq_true, Nat.reduceLT]; rfl); clear hK K1
  refine ACode.seq ?_
  refine ACode.region [0, 1, 2, 6, 7, 8] rfl fun K1 hK => ?_
  simp -implicitDefEqProofs only [go_sem, ↓reduceIte, Nat.reduceEqDiff, Nat.reduceAdd, Nat.reduceSub, Nat.reduceMul, Nat.reduceLeDiff, reduceCtorEq, Bool.false_eq_true, Nat.reduceLT, aAppend]
  refine hK _ _ ?_ _ (by simp -implicitDefEqProofs only [go_sem, ↓reduceIte, Nat.reduceEqDiff, Nat.reduceAdd, Nat.reduceSub, Nat.reduceMul, Nat.reduceLeDiff, reduceCtorEq, Bool.false_eq_true, Nat.reduceLT]; rfl); clear hK K1
  refine ACode.seq ?_
  refine ACode.block ?_
  refine ACode.loop (fun m ρ H' => ∃ a b : Int, m = (40 - b).toNat ∧ ((a = 0 ∧ b = 20 ∧ H' = H) ∨ (a = 20 ∧ b = 40 ∧ n = 20 ∧ H' = H2)) ∧ ρ = [(0, x), (1, int n), (2, .fn 32 [] []), (6, int 20), (7, int a), (8, int b)]) 20 ⟨0, 20, rfl, .inl ⟨rfl, rfl, rfl⟩, rfl⟩ ?_
  rintro m ρ H' ⟨a, b, rfl, hab, rfl⟩
  simp -implicitDefEqProofs only [go_sem, ↓reduceIte, Nat.reduceEqDiff, Nat.reduceAdd, Nat.reduceSub, Nat.reduceMul, Nat.reduceLeDiff, reduceCtorEq, Bool.false_eq_true, Nat.reduceLT, aAppend]
  refine ACode.seq ?_
  refine ACode.seq ?_
  refine ACode.region [0, 1, 2, 6, 7, 8, 13] rfl fun K1 hK => ?_
  simp -implicitDefEqProofs only [go_sem, ↓reduceIte, Nat.reduceEqDiff, Nat.reduceAdd, Nat.reduceSub, Nat.reduceMul, Nat.reduceLeDiff, reduceCtorEq, Bool.false_eq_true, Nat.reduceLT, aAppend]
  refine hK _ _ ?_ _ (by simp -implicitDefEqProofs only [go_sem, ↓reduceIte, Nat.reduceEqDiff, Nat.reduceAdd, Nat.reduceSub, Nat.reduceMul, Nat.reduceLeDiff, reduceCtorEq, Bool.false_eq_true, Nat.reduceLT]; rfl); clear hK K1
  refine ACode.cond rfl (fun h => ?_) (fun h => ?_)
  · -- yes
    try simp only [decide_eq_true_eq] at h
    rcases hab with ⟨rfl, rfl, rfl⟩ | ⟨rfl, rfl, hn2, rfl⟩
    rotate_left
    · omega
    have h20 : (n : Int) = 20 := by omega
    have hins' := hins
    rw [h20] at hins'
    refine ACode.skip ?_
    refine ACode.block ?_
    refine ACode.seq ?_
    refine ACode.region [0, 1, 2, 6, 8] rfl fun K1 hK => ?_
    simp -implicitDefEqProofs only [go_sem, ↓reduceIte, Nat.reduceEqDiff, Nat.reduceAdd, Nat.reduceSub, Nat.reduceMul, Nat.reduceLeDiff, reduceCtorEq, Bool.false_eq_true, Nat.reduceLT, aAppend]
    refine ⟨hx, hins' _ ?_⟩
    simp -implicitDefEqProofs only [go_sem, ↓reduceIte, Nat.reduceEqDiff, Nat.reduceAdd, Nat.reduceSub, Nat.reduceMul, Nat.reduceLeDiff, reduceCtorEq, Bool.false_eq_true, Nat.reduceLT, aAppend]
    refine hK _ _ ?_ _ (by simp -implicitDefEqProofs only [go_sem, ↓reduceIte, Nat.reduceEqDiff, Nat.reduceAdd, Nat.reduceSub, Nat.reduceMul, Nat.reduceLeDiff, reduceCtorEq, Bool.false_eq_true, Nat.reduceLT]; rfl); clear hK K1
    refine ACode.seq ?_
    refine ACode.region [0, 1, 2, 6, 7, 8] rfl fun K1 hK => ?_
    simp -implicitDefEqProofs only [go_sem, ↓reduceIte, Nat.reduceEqDiff, Nat.reduceAdd, Nat.reduceSub, Nat.reduceMul, Nat.reduceLeDiff, reduceCtorEq, Bool.false_eq_true, Nat.reduceLT, aAppend]
    refine hK _ _ ?_ _ (by simp -implicitDefEqProofs only [go_sem, ↓reduceIte, Nat.reduceEqDiff, Nat.reduceAdd, Nat.reduceSub, Nat.reduceMul, Nat.reduceLeDiff, reduceCtorEq, Bool.false_eq_true, Nat.reduceLT]; rfl); clear hK K1
    refine ACode.region [0, 1, 2, 6, 7, 8] rfl fun K1 hK => ?_
    simp -implicitDefEqProofs only [go_sem, ↓reduceIte, Nat.reduceEqDiff, Nat.reduceAdd, Nat.reduceSub, Nat.reduceMul, Nat.reduceLeDiff, reduceCtorEq, Bool.false_eq_true, Nat.reduceLT, aAppend]
    rw [wrap_i64 (by omega) (by omega)]
    refine hK _ _ ?_ _ (by simp -implicitDefEqProofs only [go_sem, ↓reduceIte, Nat.reduceEqDiff, Nat.reduceAdd, Nat.reduceSub, Nat.reduceMul, Nat.reduceLeDiff, reduceCtorEq, Bool.false_eq_true, Nat.reduceLT]; rfl); clear hK K1
    refine ⟨_, ?_, 20, 20 + 20, rfl, .inr ⟨rfl, rfl, by omega, rfl⟩, rfl⟩
    decide
  · -- no
    try simp only [decide_eq_false_iff_not] at h
    refine ACode.exit ?_
    refine ACode.seq ?_
    refine ACode.region_cut [0, 1, 2, 6] (fun ρ' H1 => H1 = H2 ∧ ρ' = [(0, x), (1, int n), (2, .fn 32 [] []), (6, int 20)]) rfl (fun K1 hK => ?_) ?_
    · simp -implicitDefEqProofs only [go_sem, ↓reduceIte, Nat.reduceEqDiff, Nat.reduceAdd, Nat.reduceSub, Nat.reduceMul, Nat.reduceLeDiff, reduceCtorEq, Bool.false_eq_true, Nat.reduceLT, aAppend]
      rcases hab with ⟨rfl, rfl, rfl⟩ | ⟨rfl, rfl, hn2, rfl⟩
      · refine ⟨hx, hins _ ?_⟩
        simp -implicitDefEqProofs only [go_sem, ↓reduceIte, Nat.reduceEqDiff, Nat.reduceAdd, Nat.reduceSub, Nat.reduceMul, Nat.reduceLeDiff, reduceCtorEq, Bool.false_eq_true, Nat.reduceLT, aAppend]
        refine hK _ _ ⟨rfl, rfl⟩ _ (by simp -implicitDefEqProofs only [go_sem, ↓reduceIte, Nat.reduceEqDiff, Nat.reduceAdd, Nat.reduceSub, Nat.reduceMul, Nat.reduceLeDiff, reduceCtorEq, Bool.false_eq_true, Nat.reduceLT, aAppend] <;> rfl)
      · refine ⟨hx, c47z x _ hx 20 n (by omega) (by omega) (by omega) _ _ ?_⟩
        simp -implicitDefEqProofs only [go_sem, ↓reduceIte, Nat.reduceEqDiff, Nat.reduceAdd, Nat.reduceSub, Nat.reduceMul, Nat.reduceLeDiff, reduceCtorEq, Bool.false_eq_true, Nat.reduceLT, aAppend]
        refine hK _ _ ⟨rfl, rfl⟩ _ (by simp -implicitDefEqProofs only [go_sem, ↓reduceIte, Nat.reduceEqDiff, Nat.reduceAdd, Nat.reduceSub, Nat.reduceMul, Nat.reduceLeDiff, reduceCtorEq, Bool.false_eq_true, Nat.reduceLT, aAppend] <;> rfl)
    rintro ρ' H1 ⟨rfl, rfl⟩
    refine ACode.block ?_
    refine ACode.loop (fun m ρ H' => H' = H1 ∧ ρ = [(0, x), (1, int n), (2, .fn 32 [] []), (6, int 20)]) 0 ⟨rfl, rfl⟩ ?_
    rintro m ρ H' ⟨rfl, rfl⟩
    simp -implicitDefEqProofs only [go_sem, ↓reduceIte, Nat.reduceEqDiff, Nat.reduceAdd, Nat.reduceSub, Nat.reduceMul, Nat.reduceLeDiff, reduceCtorEq, Bool.false_eq_true, Nat.reduceLT, aAppend]
    refine ACode.seq ?_
    refine ACode.seq ?_
    refine ACode.region [0, 1, 2, 6, 30] rfl fun K1 hK => ?_
    simp -implicitDefEqProofs only [go_sem, ↓reduceIte, Nat.reduceEqDiff, Nat.reduceAdd, Nat.reduceSub, Nat.reduceMul, Nat.reduceLeDiff, reduceCtorEq, Bool.false_eq_true, Nat.reduceLT, aAppend]
    refine hK _ _ ?_ _ (by simp -implicitDefEqProofs only [go_sem, ↓reduceIte, Nat.reduceEqDiff, Nat.reduceAdd, Nat.reduceSub, Nat.reduceMul, Nat.reduceLeDiff, reduceCtorEq, Bool.false_eq_true, Nat.reduceLT]; rfl); clear hK K1
    refine ACode.cond rfl (fun h => ?_) (fun h => ?_)
    · -- yes
      simp only [decide_eq_true_eq] at h; omega
    · -- no
      try simp only [decide_eq_false_iff_not] at h
      refine ACode.exit ?_
      simp -implicitDefEqProofs only [go_sem, ↓reduceIte, Nat.reduceEqDiff, Nat.reduceAdd, Nat.reduceSub, Nat.reduceMul, Nat.reduceLeDiff, reduceCtorEq, Bool.false_eq_true, Nat.reduceLT, aAppend]
      exact hk


/-- slices.SortStableFunc, with Sort$1: of at most twenty -/
theorem c31 (b : Nat) (l : List Mod) (hl : l.length ≤ 20) (H : Heap) (hb : H b = some (.arr 2 (l.map eMod)))
    (K : AV → Heap → Prop) (hk : K (.tup []) (H.upd b (.arr 2 ((sortMods l).map eMod)))) : ACalls Try.prog 31 [.slr b 2 0 l.length, .fn 32 [] []] H K := by
  refine ACalls.of_code Try.func31 rfl (by kernel_rfl) rfl (by simp [Try.ntmps31]) ?_
  rw [Try.ntmps31, Try.results31]; simp -implicitDefEqProofs only [go_sem, ↓reduceIte, Nat.reduceEqDiff, Nat.reduceAdd, Nat.reduceSub, Nat.reduceMul, Nat.reduceLeDiff, reduceCtorEq, Bool.false_eq_true, Nat.reduceLT, aAppend]
  refine ACode.region [] rfl fun K1 hK => ?_
  simp -implicitDefEqProofs only [go_sem, ↓reduceIte, Nat.reduceEqDiff, Nat.reduceAdd, Nat.reduceSub, Nat.reduceMul, Nat.reduceLeDiff, reduceCtorEq, Bool.false_eq_true, Nat.reduceLT, aAppend]
  refine c42 _ (by simp) l.length hl _ _ (fun K hk => c47 b l (by omega) H hb K hk) _ ?_
  simp -implicitDefEqProofs only [go_sem, ↓reduceIte, Nat.reduceEqDiff, Nat.reduceAdd, Nat.reduceSub, Nat.reduceMul, Nat.reduceLeDiff, reduceCtorEq, Bool.false_eq_true, Nat.reduceLT, aAppend]
  refine hK _ _ ?_ _ (by simp -implicitDefEqProofs only [go_sem, ↓reduceIte, Nat.reduceEqDiff, Nat.reduceAdd, Nat.reduceSub, Nat.reduceMul, Nat.reduceLeDiff, reduceCtorEq, Bool.false_eq_true, Nat.reduceLT]; rfl); clear hK K1
  simp -implicitDefEqProofs only [go_sem, ↓reduceIte, Nat.reduceEqDiff, Nat.reduceAdd, Nat.reduceSub, Nat.reduceMul, Nat.reduceLeDiff, reduceCtorEq, Bool.false_eq_true, Nat.reduceLT, aAppend]
  exact hk


/-- slices.SortStableFunc, with Sort$1: of none -/
theorem c31e (H : Heap) (K : AV → Heap → Prop) (hk : K (.tup []) H) : ACalls Try.prog 31 [.sl [], .fn 32 [] []] H K := by
  refine ACalls.of_code Try.func31 rfl (by kernel_rfl) rfl (by simp [Try.ntmps31]) ?_
  rw [Try.ntmps31, Try.results31]; simp -implicitDefEqProofs only [go_sem, ↓reduceIte, Nat.reduceEqDiff, Nat.reduceAdd, Nat.reduceSub, Nat.reduceMul, Nat.reduceLeDiff, reduceCtorEq, Bool.false_eq_true, Nat.reduceLT, aAppend]
  refine ACode.region [] rfl fun K1 hK => ?_
  simp -implicitDefEqProofs only [go_sem, ↓reduceIte, Nat.reduceEqDiff, Nat.reduceAdd, Nat.reduceSub, Nat.reduceMul, Nat.reduceLeDiff, reduceCtorEq, Bool.false_eq_true, Nat.reduceLT, aAppend]
  refine c42 _ (by simp) 0 (by omega) _ H (fun K hk => c47z _ _ (by simp) 0 0 (by omega) (by omega) (by omega) H K hk) _ ?_
  simp -implicitDefEqProofs only [go_sem, ↓reduceIte, Nat.reduceEqDiff, Nat.reduceAdd, Nat.reduceSub, Nat.reduceMul, Nat.reduceLeDiff, reduceCtorEq, Bool.false_eq_true, Nat.reduceLT, aAppend]
  refine hK _ _ ?_ _ (by simp -implicitDefEqProofs only [go_sem, ↓reduceIte, Nat.reduceEqDiff, Nat.reduceAdd, Nat.reduceSub, Nat.reduceMul, Nat.reduceLeDiff, reduceCtorEq, Bool.false_eq_true, Nat.reduceLT]; rfl); clear hK K1
  simp -implicitDefEqProofs only [go_sem, ↓reduceIte, Nat.reduceEqDiff, Nat.reduceAdd, Nat.reduceSub, Nat.reduceMul, Nat.reduceLeDiff, reduceCtorEq, Bool.false_eq_true, Nat.reduceLT, aAppend]
  exact hk


/-- whetstone/change.Sort: of none -/
theorem c21e (H : Heap) (K : AV → Heap → Prop) (hk : K (.sl []) H) : ACalls Try.prog 21 [.sl []] H K := by
  refine ACalls.of_code Try.func21 rfl (by kernel_rfl) rfl (by simp [Try.ntmps21]) ?_
  rw [Try.ntmps21, Try.results21]; simp -implicitDefEqProofs only [go_sem, ↓reduceIte, Nat.reduceEqDiff, Nat.reduceAdd, Nat.reduceSub, Nat.reduceMul, Nat.reduceLeDiff, reduceCtorEq, Bool.false_eq_true, Nat.reduceLT, aAppend]
  refine ACode.seq ?_
  refine ACode.region [0] rfl fun K1 hK => ?_
  simp -implicitDefEqProofs only [go_sem, ↓reduceIte, Nat.reduceEqDiff, Nat.reduceAdd, Nat.reduceSub, Nat.reduceMul, Nat.reduceLeDiff, reduceCtorEq, Bool.false_eq_true, Nat.reduceLT, aAppend]
  refine hK _ _ ?_ _ (by simp -implicitDefEqProofs only [go_sem, ↓reduceIte, Nat.reduceEqDiff, Nat.reduceAdd, Nat.reduceSub, Nat.reduceMul, Nat.reduceLeDiff, reduceCtorEq, Bool.false_eq_true, Nat.reduceLT]; rfl); clear hK K1
  refine ACode.seq ?_
  refine ACode.region [3] rfl fun K1 hK => ?_
  simp -implicitDefEqProofs only [go_sem, ↓reduceIte, Nat.reduceEqDiff, Nat.reduceAdd, Nat.reduceSub, Nat.reduceMul, Nat.reduceLeDiff, reduceCtorEq, Bool.false_eq_true, Nat.reduceLT, aAppend]
  refine c30s [] (by simp) _ _ ?_
  simp -implicitDefEqProofs only [go_sem, ↓reduceIte, Nat.reduceEqDiff, Nat.reduceAdd, Nat.reduceSub, Nat.reduceMul, Nat.reduceLeDiff, reduceCtorEq, Bool.false_eq_true, Nat.reduceLT, aAppend]
  refine hK _ _ ?_ _ (by simp -implicitDefEqProofs only [go_sem, ↓reduceIte, Nat.reduceEqDiff, Nat.reduceAdd, Nat.reduceSub, Nat.reduceMul, Nat.reduceLeDiff, reduceCtorEq, Bool.false_eq_true, Nat.reduceLT]; rfl); clear hK K1
  refine ACode.seq ?_
  refine ACode.region [3] rfl fun K1 hK => ?_
  simp -implicitDefEqProofs only [go_sem, ↓reduceIte, Nat.reduceEqDiff, Nat.reduceAdd, Nat.reduceSub, Nat.reduceMul, Nat.reduceLeDiff, reduceCtorEq, Bool.false_eq_true, Nat.reduceLT, aAppend]
  refine c31e _ _ ?_
  simp -implicitDefEqProofs only [go_sem, ↓reduceIte, Nat.reduceEqDiff, Nat.reduceAdd, Nat.reduceSub, Nat.reduceMul, Nat.reduceLeDiff, reduceCtorEq, Bool.false_eq_true, Nat.reduceLT, aAppend]
  refine hK _ _ ?_ _ (by simp -implicitDefEqProofs only [go_sem, ↓reduceIte, Nat.reduceEqDiff, Nat.reduceAdd, Nat.reduceSub, Nat.reduceMul, Nat.reduceLeDiff, reduceCtorEq, Bool.false_eq_true, Nat.reduceLT]; rfl); clear hK K1
  refine ACode.seq ?_
  refine ACode.region [2] rfl fun K1 hK => ?_
  simp -implicitDefEqProofs only [go_sem, ↓reduceIte, Nat.reduceEqDiff, Nat.reduceAdd, Nat.reduceSub, Nat.reduceMul, Nat.reduceLeDiff, reduceCtorEq, Bool.false_eq_true, Nat.reduceLT, aAppend]
  refine hK _ _ ?_ _ (by simp -implicitDefEqProofs only [go_sem, ↓reduceIte, Nat.reduceEqDiff, Nat.reduceAdd, Nat.reduceSub, Nat.reduceMul, Nat.reduceLeDiff, reduceCtorEq, Bool.false_eq_true, Nat.reduceLT]; rfl); clear hK K1
  refine ACode.ret ?_
  exact hk


/-- whetstone/change.Sort: of some, at most twenty -/
theorem c21p (l : List Mod) (h0 : l ≠ []) (hl : l.length ≤ 20) (H : Heap) (K : AV → Heap → Prop) (hk : K (.sl ((sortMods l).map eMod)) H) : ACalls Try.prog 21 [.sl (l.map eMod)] H K := by
  refine ACalls.of_code Try.func21 rfl (by kernel_rfl) rfl (by simp [Try.ntmps21]) ?_
  rw [Try.ntmps21, Try.results21]; simp -implicitDefEqProofs only [go_sem, ↓reduceIte, Nat.reduceEqDiff, Nat.reduceAdd, Nat.reduceSub, Nat.reduceMul, Nat.reduceLeDiff, reduceCtorEq, Bool.false_eq_true, Nat.reduceLT, aAppend]
  refine ACode.seq ?_
  refine ACode.region [0] rfl fun K1 hK => ?_
  simp -implicitDefEqProofs only [go_sem, ↓reduceIte, Nat.reduceEqDiff, Nat.reduceAdd, Nat.reduceSub, Nat.reduceMul, Nat.reduceLeDiff, reduceCtorEq, Bool.false_eq_true, Nat.reduceLT, aAppend]
  refine hK _ _ ?_ _ (by simp -implicitDefEqProofs only [go_sem, ↓reduceIte, Nat.reduceEqDiff, Nat.reduceAdd, Nat.reduceSub, Nat.reduceMul, Nat.reduceLeDiff, reduceCtorEq, Bool.false_eq_true, Nat.reduceLT]; rfl); clear hK K1
  refine ACode.seq ?_
  refine ACode.region [3] rfl fun K1 hK => ?_
  simp -implicitDefEqProofs only [go_sem, ↓reduceIte, Nat.reduceEqDiff, Nat.reduceAdd, Nat.reduceSub, Nat.reduceMul, Nat.reduceLeDiff, reduceCtorEq, Bool.false_eq_true, Nat.reduceLT, aAppend]
  refine c30 l (by omega) _ _ fun x H1 hst => ?_
  simp -implicitDefEqProofs only [go_sem, ↓reduceIte, Nat.reduceEqDiff, Nat.reduceAdd, Nat.reduceSub, Nat.reduceMul, Nat.reduceLeDiff, reduceCtorEq, Bool.false_eq_true, Nat.reduceLT, aAppend]
  refine hK _ _ ?_ _ (by simp -implicitDefEqProofs only [go_sem, ↓reduceIte, Nat.reduceEqDiff, Nat.reduceAdd, Nat.reduceSub, Nat.reduceMul, Nat.reduceLeDiff, reduceCtorEq, Bool.false_eq_true, Nat.reduceLT]; rfl); clear hK K1
  obtain ⟨hle, ⟨hn, rfl⟩ | ⟨b, hb, hb1, rfl⟩⟩ := hst
  · exact absurd (by simpa using hn) h0
  rw [List.length_map]
  refine ACode.seq ?_
  refine ACode.region [3] rfl fun K1 hK => ?_
  simp -implicitDefEqProofs only [go_sem, ↓reduceIte, Nat.reduceEqDiff, Nat.reduceAdd, Nat.reduceSub, Nat.reduceMul, Nat.reduceLeDiff, reduceCtorEq, Bool.false_eq_true, Nat.reduceLT, aAppend]
  refine c31 b l hl _ hb1 _ ?_
  simp -implicitDefEqProofs only [go_sem, ↓reduceIte, Nat.reduceEqDiff, Nat.reduceAdd, Nat.reduceSub, Nat.reduceMul, Nat.reduceLeDiff, reduceCtorEq, Bool.false_eq_true, Nat.reduceLT, aAppend]
  refine hK _ _ ?_ _ (by simp -implicitDefEqProofs only [go_sem, ↓reduceIte, Nat.reduceEqDiff, Nat.reduceAdd, Nat.reduceSub, Nat.reduceMul, Nat.reduceLeDiff, reduceCtorEq, Bool.false_eq_true, Nat.reduceLT]; rfl); clear hK K1
  refine ACode.seq ?_
  refine ACode.region [2] rfl fun K1 hK => ?_
  simp -implicitDefEqProofs only [go_sem, ↓reduceIte, Nat.reduceEqDiff, Nat.reduceAdd, Nat.reduceSub, Nat.reduceMul, Nat.reduceLeDiff, reduceCtorEq, Bool.false_eq_true, Nat.reduceLT, aAppend]
  refine hK _ _ ?_ _ (by simp -implicitDefEqProofs only [go_sem, ↓reduceIte, Nat.reduceEqDiff, Nat.reduceAdd, Nat.reduceSub, Nat.reduceMul, Nat.reduceLeDiff, reduceCtorEq, Bool.false_eq_true, Nat.reduceLT]; rfl); clear hK K1
  refine AppSt.done (H := H) 2 (s := 2) (l := (sortMods l).map eMod) ⟨fun c q hc => ?_, .inr ⟨b, hb, Heap.upd_same _ _ _, ?_⟩⟩ rfl ?_
  · have : c ≠ b := fun e => by subst e; rw [hb] at hc; cases hc
    rw [Heap.upd_other _ _ this]; exact hle c q hc
  · rw [List.length_map, sortMods, List.length_reverse, sortR_length]; rfl
  simp -implicitDefEqProofs only [go_sem, ↓reduceIte, Nat.reduceEqDiff, Nat.reduceAdd, Nat.reduceSub, Nat.reduceMul, Nat.reduceLeDiff, reduceCtorEq, Bool.false_eq_true, Nat.reduceLT, aAppend]
  refine ACode.ret ?_
  exact hk


theorem c21 (l : List Mod) (hl : l.length ≤ 20) (H : Heap) (K : AV → Heap → Prop) (hk : K (.sl ((sortMods l).map eMod)) H) : ACalls Try.prog 21 [.sl (l.map eMod)] H K := by
  by_cases h0 : l = []
  · subst h0; exact c21e H K hk
  · exact c21p l h0 hl H K hk

end Go.Flow

