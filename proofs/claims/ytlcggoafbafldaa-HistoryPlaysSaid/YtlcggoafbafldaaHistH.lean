/-
  Modules by rising names: the reference's sort. No condition.
-/
import Derived.Test.YtlcggoafbafldaaHistG
set_option linter.unusedVariables false
set_option linter.unusedSimpArgs false
set_option maxRecDepth 20000
namespace Go.Flow
open Go Go.Proofs

/-- whetstone/whetstoneref17.Sort -/
theorem c22 (l : List Mod) (hl : l.length ≤ 1000000000) (H : Heap) (K : AV → Heap → Prop) (hk : K (.sl ((sortMods l).map eMod)) H) : ACalls Try.prog 22 [.sl (l.map eMod)] H K := by
  refine ACalls.of_code Try.func22 rfl (by kernel_rfl) rfl (by simp [Try.ntmps22]) ?_
  rw [Try.ntmps22, Try.results22]; simp -implicitDefEqProofs only [go_sem, ↓reduceIte, Nat.reduceEqDiff, Nat.reduceAdd, Nat.reduceSub, Nat.reduceMul, Nat.reduceLeDiff, reduceCtorEq, Bool.false_eq_true, Nat.reduceLT, aAppend]
  refine ACode.seq ?_
  refine ACode.region [0] rfl fun K1 hK => ?_
  simp -implicitDefEqProofs only [go_sem, ↓reduceIte, Nat.reduceEqDiff, Nat.reduceAdd, Nat.reduceSub, Nat.reduceMul, Nat.reduceLeDiff, reduceCtorEq, Bool.false_eq_true, Nat.reduceLT, aAppend]
  refine hK _ _ ?_ _ (by simp -implicitDefEqProofs only [go_sem, ↓reduceIte, Nat.reduceEqDiff, Nat.reduceAdd, Nat.reduceSub, Nat.reduceMul, Nat.reduceLeDiff, reduceCtorEq, Bool.false_eq_true, Nat.reduceLT]; rfl); clear hK K1
  refine ACode.seq ?_
  refine ACode.region [0, 3] rfl fun K1 hK => ?_
  simp -implicitDefEqProofs only [go_sem, ↓reduceIte, Nat.reduceEqDiff, Nat.reduceAdd, Nat.reduceSub, Nat.reduceMul, Nat.reduceLeDiff, reduceCtorEq, Bool.false_eq_true, Nat.reduceLT, aAppend]
  refine hK _ _ ?_ _ (by simp -implicitDefEqProofs only [go_sem, ↓reduceIte, Nat.reduceEqDiff, Nat.reduceAdd, Nat.reduceSub, Nat.reduceMul, Nat.reduceLeDiff, reduceCtorEq, Bool.false_eq_true, Nat.reduceLT]; rfl); clear hK K1
  refine ACode.seq ?_
  refine ACode.seq ?_
  refine ACode.region [0, 3, 4] rfl fun K1 hK => ?_
  simp -implicitDefEqProofs only [go_sem, ↓reduceIte, Nat.reduceEqDiff, Nat.reduceAdd, Nat.reduceSub, Nat.reduceMul, Nat.reduceLeDiff, reduceCtorEq, Bool.false_eq_true, Nat.reduceLT, aAppend]
  refine hK _ _ ?_ _ (by simp -implicitDefEqProofs only [go_sem, ↓reduceIte, Nat.reduceEqDiff, Nat.reduceAdd, Nat.reduceSub, Nat.reduceMul, Nat.reduceLeDiff, reduceCtorEq, Bool.false_eq_true, Nat.reduceLT]; rfl); clear hK K1
  refine ACode.block ?_
  refine ACode.loop (fun m ρ H' => ∃ (k : Nat) (x : AV), m = l.length - k ∧ k ≤ l.length ∧ AppSt H 2 ((sortR (l.take k)).reverse.map eMod) x H' ∧ ρ = [(0, .sl (l.map eMod)), (3, x), (4, int k)]) l.length ⟨0, _, rfl, Nat.zero_le _, AppSt.nil, rfl⟩ ?_
  rintro m ρ H' ⟨k, x, rfl, hkl, hst, rfl⟩
  simp -implicitDefEqProofs only [go_sem, ↓reduceIte, Nat.reduceEqDiff, Nat.reduceAdd, Nat.reduceSub, Nat.reduceMul, Nat.reduceLeDiff, reduceCtorEq, Bool.false_eq_true, Nat.reduceLT, aAppend]
  refine ACode.seq ?_
  refine ACode.seq ?_
  refine ACode.region [0, 3, 4, 10] rfl fun K1 hK => ?_
  simp -implicitDefEqProofs only [go_sem, ↓reduceIte, Nat.reduceEqDiff, Nat.reduceAdd, Nat.reduceSub, Nat.reduceMul, Nat.reduceLeDiff, reduceCtorEq, Bool.false_eq_true, Nat.reduceLT, aAppend]
  refine hK _ _ ?_ _ (by simp -implicitDefEqProofs only [go_sem, ↓reduceIte, Nat.reduceEqDiff, Nat.reduceAdd, Nat.reduceSub, Nat.reduceMul, Nat.reduceLeDiff, reduceCtorEq, Bool.false_eq_true, Nat.reduceLT]; rfl); clear hK K1
  refine ACode.cond rfl (fun h => ?_) (fun h => ?_)
  · -- yes
    try simp only [decide_eq_true_eq] at h
    obtain ⟨y, hx, hd, hm, ht⟩ := at_drop l k (by omega)
    have hql : (sortR (l.take k)).length = k := by rw [sortR_length, List.length_take]; omega
    have hlr : ((sortR (l.take k)).reverse.map eMod).length = k := by simp [hql]
    refine ACode.skip ?_
    refine ACode.seq ?_
    refine ACode.block ?_
    refine ACode.seq ?_
    refine ACode.region_cut [0, 3, 4, 5] (fun ρ' H1 => H1 = H' ∧ ρ' = [(0, .sl (l.map eMod)), (3, x), (4, int k), (5, int (sortR (l.take k)).length)]) rfl (fun K1 hK => ?_) ?_
    · obtain ⟨hle, ⟨hn, rfl⟩ | ⟨b, hb, hb1, rfl⟩⟩ := hst
      · have hn2 : (sortR (l.take k)) = [] := by simpa using hn
        rw [hn2] at hK
        simp -implicitDefEqProofs only [go_sem, ↓reduceIte, Nat.reduceEqDiff, Nat.reduceAdd, Nat.reduceSub, Nat.reduceMul, Nat.reduceLeDiff, reduceCtorEq, Bool.false_eq_true, Nat.reduceLT, aAppend]
        refine hK _ _ ⟨rfl, rfl⟩ _ (by simp -implicitDefEqProofs only [go_sem, ↓reduceIte, Nat.reduceEqDiff, Nat.reduceAdd, Nat.reduceSub, Nat.reduceMul, Nat.reduceLeDiff, reduceCtorEq, Bool.false_eq_true, Nat.reduceLT, aAppend] <;> rfl)
      · simp -implicitDefEqProofs only [go_sem, ↓reduceIte, Nat.reduceEqDiff, Nat.reduceAdd, Nat.reduceSub, Nat.reduceMul, Nat.reduceLeDiff, reduceCtorEq, Bool.false_eq_true, Nat.reduceLT, aAppend]
        refine hK _ _ ⟨rfl, rfl⟩ _ (by rw [List.length_map, List.length_reverse]; simp -implicitDefEqProofs only [go_sem, ↓reduceIte, Nat.reduceEqDiff, Nat.reduceAdd, Nat.reduceSub, Nat.reduceMul, Nat.reduceLeDiff, reduceCtorEq, Bool.false_eq_true, Nat.reduceLT, aAppend] <;> rfl)
    rintro ρ' H1 ⟨rfl, rfl⟩
    refine ACode.seq ?_
    refine ACode.block ?_
    refine ACode.loop (fun m ρ H2 => ∃ (p q : List Mod), m = q.length ∧ insR y (sortR (l.take k)) = p ++ insR y q ∧ sortR (l.take k) = p ++ q ∧ H2 = H1 ∧ ρ = [(0, .sl (l.map eMod)), (3, x), (4, int k), (5, int q.length)]) (sortR (l.take k)).length ⟨[], sortR (l.take k), rfl, rfl, rfl, rfl, rfl⟩ ?_
    rintro m ρ H2 ⟨p, q, rfl, hins, hpq, rfl, rfl⟩
    simp -implicitDefEqProofs only [go_sem, ↓reduceIte, Nat.reduceEqDiff, Nat.reduceAdd, Nat.reduceSub, Nat.reduceMul, Nat.reduceLeDiff, reduceCtorEq, Bool.false_eq_true, Nat.reduceLT, aAppend]
    refine ACode.seq ?_
    refine ACode.seq ?_
    refine ACode.draw_cut [0, 3, 4, 5, 30] [(0, 0), (1, 0), (2, 0), (3, 0), (4, 0), (5, 0), (6, 0), (7, 0), (9, 0), (10, 0), (11, 0), (12, 0), (8, 1), (13, 1), (14, 0), (15, 0)] (fun ρ' H3 => ∃ t : Bool, (t = true ↔ ∃ z q', q = z :: q' ∧ Op.bytesLess y.Name z.Name = true) ∧ H3 = H2 ∧ ρ' = [(0, .sl (l.map eMod)), (3, x), (4, int k), (5, int q.length), (30, boo t)]) (by kernel_rfl) (by kernel_rfl) rfl (by kernel_rfl) (fun K1 hK => ?_) ?_
    · rcases q with _ | ⟨z, q'⟩
      · have hd1 : decide ((0 : Int) < ((0 : Nat) : Int)) = false := by simp
        simp -implicitDefEqProofs only [go_sem, ↓reduceIte, Nat.reduceEqDiff, Nat.reduceAdd, Nat.reduceSub, Nat.reduceMul, Nat.reduceLeDiff, reduceCtorEq, Bool.false_eq_true, Nat.reduceLT, aAppend, hd1]
        refine hK _ _ ⟨false, by simp, rfl, rfl⟩ _ (by simp -implicitDefEqProofs only [go_sem, ↓reduceIte, Nat.reduceEqDiff, Nat.reduceAdd, Nat.reduceSub, Nat.reduceMul, Nat.reduceLeDiff, reduceCtorEq, Bool.false_eq_true, Nat.reduceLT, aAppend] <;> rfl)
      · have hd1 : decide ((0 : Int) < ((q'.length + 1 : Nat) : Int)) = true := by rw [decide_eq_true_eq]; omega
        have e1 : ((q'.length + 1 : Nat) : Int) - 1 = (q'.length : Int) := by omega
        obtain ⟨hle, ⟨hn, rfl⟩ | ⟨b, hb, hb1, rfl⟩⟩ := hst
        · rw [hpq] at hn; simp at hn
        have hlen : (p ++ z :: q').length = k := by rw [← hpq, hql]
        rw [List.length_append, List.length_cons] at hlen
        rw [hlr] at hK ⊢
        rw [hpq] at hb1
        have g2 : ((p ++ z :: q').reverse)[q'.length]? = some z := by
          rw [List.reverse_append, List.reverse_cons, List.append_assoc]
          have := get_mid q'.reverse z ([] ++ p.reverse); rwa [List.length_reverse] at this
        generalize hdat : (p ++ z :: q').reverse = dat at *
        simp -implicitDefEqProofs only [go_sem, ↓reduceIte, Nat.reduceEqDiff, Nat.reduceAdd, Nat.reduceSub, Nat.reduceMul, Nat.reduceLeDiff, reduceCtorEq, Bool.false_eq_true, Nat.reduceLT, aAppend, hd1]
        rw [wrap_i64 (by omega) (by omega), e1]
        simp -implicitDefEqProofs only [go_sem, ↓reduceIte, Nat.reduceEqDiff, Nat.reduceAdd, Nat.reduceSub, Nat.reduceMul, Nat.reduceLeDiff, reduceCtorEq, Bool.false_eq_true, Nat.reduceLT, aAppend, hb1, g2, hx, eMod]
        refine ⟨by omega, ?_⟩
        refine hK _ _ ⟨_, ?_, rfl, rfl⟩ _ (by simp -implicitDefEqProofs only [go_sem, ↓reduceIte, Nat.reduceEqDiff, Nat.reduceAdd, Nat.reduceSub, Nat.reduceMul, Nat.reduceLeDiff, reduceCtorEq, Bool.false_eq_true, Nat.reduceLT, aAppend] <;> rfl)
        rw [less_other]
        simp
    rintro ρ' H3 ⟨t, ht30, rfl, rfl⟩
    refine ACode.cond rfl (fun h => ?_) (fun h => ?_)
    · -- yes
      try simp only [decide_eq_true_eq] at h
      subst h
      obtain ⟨z, q', rfl, hless⟩ := ht30.1 rfl
      have e1 : ((q'.length + 1 : Nat) : Int) - 1 = (q'.length : Int) := by omega
      have hlen : (p ++ z :: q').length = k := by rw [← hpq, hql]
      rw [List.length_append, List.length_cons] at hlen
      refine ACode.skip ?_
      refine ACode.block ?_
      refine ACode.region [0, 3, 4, 5] rfl fun K1 hK => ?_
      simp -implicitDefEqProofs only [go_sem, ↓reduceIte, Nat.reduceEqDiff, Nat.reduceAdd, Nat.reduceSub, Nat.reduceMul, Nat.reduceLeDiff, reduceCtorEq, Bool.false_eq_true, Nat.reduceLT, aAppend]
      rw [wrap_i64 (by omega) (by omega), e1]
      refine hK _ _ ?_ _ (by simp -implicitDefEqProofs only [go_sem, ↓reduceIte, Nat.reduceEqDiff, Nat.reduceAdd, Nat.reduceSub, Nat.reduceMul, Nat.reduceLeDiff, reduceCtorEq, Bool.false_eq_true, Nat.reduceLT]; rfl); clear hK K1
      refine ⟨_, ?_, p ++ [z], q', rfl, ?_, ?_, rfl, rfl⟩
      · simp
      · rw [hins, insR, if_pos hless]; simp
      · rw [hpq]; simp
    · -- no
      try simp only [decide_eq_false_iff_not] at h
      subst h
      refine ACode.exit ?_
      have hstop : insR y (sortR (l.take k)) = p ++ y :: q := by
        rw [hins]
        cases q with
        | nil => rfl
        | cons z q' =>
          have : ¬ (Op.bytesLess y.Name z.Name = true) := fun h => by simpa using ht30.2 ⟨z, q', rfl, h⟩
          rw [insR, if_neg this]
      have hlen : p.length + q.length = k := by rw [← List.length_append, ← hpq, hql]
      refine ACode.seq ?_
      refine ACode.region [0, 3, 4, 5, 6] rfl fun K1 hK => ?_
      simp -implicitDefEqProofs only [go_sem, ↓reduceIte, Nat.reduceEqDiff, Nat.reduceAdd, Nat.reduceSub, Nat.reduceMul, Nat.reduceLeDiff, reduceCtorEq, Bool.false_eq_true, Nat.reduceLT, aAppend]
      refine hK _ _ ?_ _ (by simp -implicitDefEqProofs only [go_sem, ↓reduceIte, Nat.reduceEqDiff, Nat.reduceAdd, Nat.reduceSub, Nat.reduceMul, Nat.reduceLeDiff, reduceCtorEq, Bool.false_eq_true, Nat.reduceLT]; rfl); clear hK K1
      refine ACode.seq ?_
      refine ACode.region_cut [0, 3, 4, 5, 6] (fun ρ' H4 => ∃ x6, AppSt H3 2 (q.reverse.map eMod) x6 H4 ∧ ρ' = [(0, .sl (l.map eMod)), (3, x), (4, int k), (5, int q.length), (6, x6)]) rfl (fun K1 hK => ?_) ?_
      · obtain ⟨hle, ⟨hn, rfl⟩ | ⟨b, hb, hb1, rfl⟩⟩ := hst
        · have hn2 : (sortR (l.take k)) = [] := by simpa using hn
          rw [hn2] at hpq
          obtain ⟨rfl, rfl⟩ : p = [] ∧ q = [] := by simpa using hpq.symm
          simp -implicitDefEqProofs only [go_sem, ↓reduceIte, Nat.reduceEqDiff, Nat.reduceAdd, Nat.reduceSub, Nat.reduceMul, Nat.reduceLeDiff, reduceCtorEq, Bool.false_eq_true, Nat.reduceLT]
          refine ⟨rfl, ?_⟩
          refine AppSt.append (l2 := []) AppSt.nil el22 ze55 ni22 (by omega) (by omega) (srcOf_nil _) (by simp [sizesAre]) (by simp) fun x' H4 hst' => ?_
          simp -implicitDefEqProofs only [go_sem, ↓reduceIte, Nat.reduceEqDiff, Nat.reduceAdd, Nat.reduceSub, Nat.reduceMul, Nat.reduceLeDiff, reduceCtorEq, Bool.false_eq_true, Nat.reduceLT, aAppend]
          refine hK _ _ ⟨_, hst', ?_⟩ _ (by simp -implicitDefEqProofs only [go_sem, ↓reduceIte, Nat.reduceEqDiff, Nat.reduceAdd, Nat.reduceSub, Nat.reduceMul, Nat.reduceLeDiff, reduceCtorEq, Bool.false_eq_true, Nat.reduceLT, aAppend] <;> rfl)
          rfl
        · rw [hlr] at hK ⊢
          rw [hpq, List.reverse_append] at hb1
          have htk : (((q.reverse ++ p.reverse).map eMod).drop 0).take (q.length - 0) = q.reverse.map eMod := by
            rw [List.drop_zero, Nat.sub_zero, ← List.map_take]; congr 1; have := List.take_left (l₁ := q.reverse) (l₂ := p.reverse); rwa [List.length_reverse] at this
          simp -implicitDefEqProofs only [go_sem, ↓reduceIte, Nat.reduceEqDiff, Nat.reduceAdd, Nat.reduceSub, Nat.reduceMul, Nat.reduceLeDiff, reduceCtorEq, Bool.false_eq_true, Nat.reduceLT]
          refine ⟨by omega, ?_⟩
          refine AppSt.append (l2 := q.reverse.map eMod) AppSt.nil el22 ze55 ni22 (by omega) (by omega) (srcOf_slr hb1 (by simp) htk) (eMod_sizes _) (by simp; omega) fun x' H4 hst' => ?_
          simp -implicitDefEqProofs only [go_sem, ↓reduceIte, Nat.reduceEqDiff, Nat.reduceAdd, Nat.reduceSub, Nat.reduceMul, Nat.reduceLeDiff, reduceCtorEq, Bool.false_eq_true, Nat.reduceLT, aAppend]
          refine hK _ _ ⟨_, hst', ?_⟩ _ (by simp -implicitDefEqProofs only [go_sem, ↓reduceIte, Nat.reduceEqDiff, Nat.reduceAdd, Nat.reduceSub, Nat.reduceMul, Nat.reduceLeDiff, reduceCtorEq, Bool.false_eq_true, Nat.reduceLT, aAppend] <;> rfl)
          rfl
      rintro ρ' H4 ⟨x6, hst6, rfl⟩
      refine ACode.seq ?_
      refine ACode.region [0, 3, 4, 5, 6] rfl fun K1 hK => ?_
      simp -implicitDefEqProofs only [go_sem, ↓reduceIte, Nat.reduceEqDiff, Nat.reduceAdd, Nat.reduceSub, Nat.reduceMul, Nat.reduceLeDiff, reduceCtorEq, Bool.false_eq_true, Nat.reduceLT, hx, eMod]
      intro u hu
      refine AppSt.append (hst6.le (Heap.le_upd hu)) el22 ze55 ni22 (by omega) (by omega) (srcOf_one _ _ _ _) (sizesAre_one (by simp [AV.size, AV.sizes])) (by simp; omega) fun x7 H5 hst7 => ?_
      simp -implicitDefEqProofs only [go_sem, ↓reduceIte, Nat.reduceEqDiff, Nat.reduceAdd, Nat.reduceSub, Nat.reduceMul, Nat.reduceLeDiff, reduceCtorEq, Bool.false_eq_true, Nat.reduceLT, aAppend]
      refine hK _ _ ?_ _ (by simp -implicitDefEqProofs only [go_sem, ↓reduceIte, Nat.reduceEqDiff, Nat.reduceAdd, Nat.reduceSub, Nat.reduceMul, Nat.reduceLeDiff, reduceCtorEq, Bool.false_eq_true, Nat.reduceLT]; rfl); clear hK K1
      refine ACode.region_cut [0, 3, 4] (fun ρ' H6 => ∃ x8, AppSt H3 2 ((p ++ y :: q).reverse.map eMod) x8 H6 ∧ ρ' = [(0, .sl (l.map eMod)), (3, x8), (4, int k)]) rfl (fun K1 hK => ?_) ?_
      · obtain ⟨hle, ⟨hn, rfl⟩ | ⟨b, hb, hb1, rfl⟩⟩ := hst
        · have hn2 : (sortR (l.take k)) = [] := by simpa using hn
          rw [hn2] at hpq
          obtain ⟨rfl, rfl⟩ : p = [] ∧ q = [] := by simpa using hpq.symm
          simp -implicitDefEqProofs only [go_sem, ↓reduceIte, Nat.reduceEqDiff, Nat.reduceAdd, Nat.reduceSub, Nat.reduceMul, Nat.reduceLeDiff, reduceCtorEq, Bool.false_eq_true, Nat.reduceLT]
          refine ⟨rfl, ?_⟩
          refine AppSt.append (l2 := []) hst7 el22 ze55 ni22 (by omega) (by omega) (srcOf_nil _) (by simp [sizesAre]) (by simp) fun x' H6 hst' => ?_
          simp -implicitDefEqProofs only [go_sem, ↓reduceIte, Nat.reduceEqDiff, Nat.reduceAdd, Nat.reduceSub, Nat.reduceMul, Nat.reduceLeDiff, reduceCtorEq, Bool.false_eq_true, Nat.reduceLT, aAppend]
          refine hK _ _ ⟨_, ?_, rfl⟩ _ (by simp -implicitDefEqProofs only [go_sem, ↓reduceIte, Nat.reduceEqDiff, Nat.reduceAdd, Nat.reduceSub, Nat.reduceMul, Nat.reduceLeDiff, reduceCtorEq, Bool.false_eq_true, Nat.reduceLT, aAppend] <;> rfl)
          simpa [eMod, str] using hst'
        · rw [hlr]
          rw [hpq, List.reverse_append] at hb1
          have hb2 := hst7.1 _ _ hb1
          have htk : (((q.reverse ++ p.reverse).map eMod).drop q.length).take (k - q.length) = p.reverse.map eMod := by
            rw [← List.map_drop, ← List.map_take]; congr 1; have := List.drop_left (l₁ := q.reverse) (l₂ := p.reverse); rw [List.length_reverse] at this
            rw [this]; exact List.take_of_length_le (by simp; omega)
          simp -implicitDefEqProofs only [go_sem, ↓reduceIte, Nat.reduceEqDiff, Nat.reduceAdd, Nat.reduceSub, Nat.reduceMul, Nat.reduceLeDiff, reduceCtorEq, Bool.false_eq_true, Nat.reduceLT]
          refine ⟨by omega, by omega, ?_⟩
          refine AppSt.append (l2 := p.reverse.map eMod) hst7 el22 ze55 ni22 (by omega) (by omega) (srcOf_slr hb2 (by simp; omega) htk) (eMod_sizes _) (by simp; omega) fun x' H6 hst' => ?_
          simp -implicitDefEqProofs only [go_sem, ↓reduceIte, Nat.reduceEqDiff, Nat.reduceAdd, Nat.reduceSub, Nat.reduceMul, Nat.reduceLeDiff, reduceCtorEq, Bool.false_eq_true, Nat.reduceLT, aAppend]
          refine hK _ _ ⟨_, ?_, rfl⟩ _ (by simp -implicitDefEqProofs only [go_sem, ↓reduceIte, Nat.reduceEqDiff, Nat.reduceAdd, Nat.reduceSub, Nat.reduceMul, Nat.reduceLeDiff, reduceCtorEq, Bool.false_eq_true, Nat.reduceLT, aAppend] <;> rfl)
          simpa [eMod, str] using hst'
      rintro ρ' H6 ⟨x8, hst8, rfl⟩
      refine ACode.region [0, 3, 4] rfl fun K1 hK => ?_
      simp -implicitDefEqProofs only [go_sem, ↓reduceIte, Nat.reduceEqDiff, Nat.reduceAdd, Nat.reduceSub, Nat.reduceMul, Nat.reduceLeDiff, reduceCtorEq, Bool.false_eq_true, Nat.reduceLT, aAppend]
      rw [wrap_i64 (by omega) (by omega)]
      refine hK _ _ ?_ _ (by simp -implicitDefEqProofs only [go_sem, ↓reduceIte, Nat.reduceEqDiff, Nat.reduceAdd, Nat.reduceSub, Nat.reduceMul, Nat.reduceLeDiff, reduceCtorEq, Bool.false_eq_true, Nat.reduceLT]; rfl); clear hK K1
      refine ⟨_, by omega, k + 1, x8, rfl, by omega, ?_, by simp <;> rfl⟩
      rw [ht, sortR_snoc, hstop]
      exact hst8.base hst.1
  · -- no
    try simp only [decide_eq_false_iff_not] at h
    refine ACode.exit ?_
    rw [take_end l k h] at hst
    refine ACode.seq ?_
    refine ACode.region [2] rfl fun K1 hK => ?_
    simp -implicitDefEqProofs only [go_sem, ↓reduceIte, Nat.reduceEqDiff, Nat.reduceAdd, Nat.reduceSub, Nat.reduceMul, Nat.reduceLeDiff, reduceCtorEq, Bool.false_eq_true, Nat.reduceLT, aAppend]
    refine hK _ _ ?_ _ (by simp -implicitDefEqProofs only [go_sem, ↓reduceIte, Nat.reduceEqDiff, Nat.reduceAdd, Nat.reduceSub, Nat.reduceMul, Nat.reduceLeDiff, reduceCtorEq, Bool.false_eq_true, Nat.reduceLT]; rfl); clear hK K1
    refine AppSt.done 2 hst rfl ?_
    simp -implicitDefEqProofs only [go_sem, ↓reduceIte, Nat.reduceEqDiff, Nat.reduceAdd, Nat.reduceSub, Nat.reduceMul, Nat.reduceLeDiff, reduceCtorEq, Bool.false_eq_true, Nat.reduceLT, aAppend]
    refine ACode.ret ?_
    exact hk


end Go.Flow

