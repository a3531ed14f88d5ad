/-
  New histories: the program's and the reference's. No condition.
-/
import Derived.Test.YtlcggoafbafldaaHistH
set_option linter.unusedVariables false
set_option linter.unusedSimpArgs false
set_option maxRecDepth 20000
namespace Go.Flow
open Go Go.Proofs

/-- no name twice beside itself -/
def apartFrom (was : List UInt8) : List Mod → Bool
  | [] => true
  | m :: r => if m.Name = was then false else apartFrom m.Name r
def apartMods : List Mod → Bool
  | [] => true
  | m :: r => apartFrom m.Name r

/-- whetstone/history.New -/
theorem c6 (l : List Mod) (hl : l.length ≤ 20) (H : Heap) (K : AV → Heap → Prop)
    (h1 : apartMods (sortMods l) = false → K (.tup [.v (.pointer none), int 4]) H)
    (h2 : apartMods (sortMods l) = true → ∀ b, H b = none → K (.tup [.bp b 0 [], int 0]) (H.upd b (.box (.agg [.sl ((sortMods l).map eMod), .v (.slice none 0 0), .v (.slice none 0 0)])))) :
    ACalls Try.prog 6 [.sl (l.map eMod)] H K := by
  refine ACalls.of_code Try.func6 rfl (by kernel_rfl) rfl (by simp [Try.ntmps6]) ?_
  rw [Try.ntmps6, Try.results6]; simp -implicitDefEqProofs only [go_sem, ↓reduceIte, Nat.reduceEqDiff, Nat.reduceAdd, Nat.reduceSub, Nat.reduceMul, Nat.reduceLeDiff, reduceCtorEq, Bool.false_eq_true, Nat.reduceLT, aAppend]
  refine ACode.seq ?_
  refine ACode.region [0] rfl fun K1 hK => ?_
  simp -implicitDefEqProofs only [go_sem, ↓reduceIte, Nat.reduceEqDiff, Nat.reduceAdd, Nat.reduceSub, Nat.reduceMul, Nat.reduceLeDiff, reduceCtorEq, Bool.false_eq_true, Nat.reduceLT, aAppend]
  refine hK _ _ ?_ _ (by simp -implicitDefEqProofs only [go_sem, ↓reduceIte, Nat.reduceEqDiff, Nat.reduceAdd, Nat.reduceSub, Nat.reduceMul, Nat.reduceLeDiff, reduceCtorEq, Bool.false_eq_true, Nat.reduceLT]; rfl); clear hK K1
  refine ACode.seq ?_
  refine ACode.region [0] rfl fun K1 hK => ?_
  simp -implicitDefEqProofs only [go_sem, ↓reduceIte, Nat.reduceEqDiff, Nat.reduceAdd, Nat.reduceSub, Nat.reduceMul, Nat.reduceLeDiff, reduceCtorEq, Bool.false_eq_true, Nat.reduceLT, aAppend]
  refine c21 l hl _ _ ?_
  simp -implicitDefEqProofs only [go_sem, ↓reduceIte, Nat.reduceEqDiff, Nat.reduceAdd, Nat.reduceSub, Nat.reduceMul, Nat.reduceLeDiff, reduceCtorEq, Bool.false_eq_true, Nat.reduceLT, aAppend]
  refine hK _ _ ?_ _ (by simp -implicitDefEqProofs only [go_sem, ↓reduceIte, Nat.reduceEqDiff, Nat.reduceAdd, Nat.reduceSub, Nat.reduceMul, Nat.reduceLeDiff, reduceCtorEq, Bool.false_eq_true, Nat.reduceLT]; rfl); clear hK K1
  have hsl : (sortMods l).length = l.length := by rw [sortMods, List.length_reverse, sortR_length]
  generalize hss : sortMods l = s at *
  refine ACode.seq ?_
  refine ACode.seq ?_
  refine ACode.region [0, 4] rfl fun K1 hK => ?_
  simp -implicitDefEqProofs only [go_sem, ↓reduceIte, Nat.reduceEqDiff, Nat.reduceAdd, Nat.reduceSub, Nat.reduceMul, Nat.reduceLeDiff, reduceCtorEq, Bool.false_eq_true, Nat.reduceLT, aAppend]
  refine hK _ _ ?_ _ (by simp -implicitDefEqProofs only [go_sem, ↓reduceIte, Nat.reduceEqDiff, Nat.reduceAdd, Nat.reduceSub, Nat.reduceMul, Nat.reduceLeDiff, reduceCtorEq, Bool.false_eq_true, Nat.reduceLT]; rfl); clear hK K1
  refine ACode.block ?_
  refine ACode.loop (fun m ρ H' => ∃ k : Nat, m = s.length - k ∧ 1 ≤ k ∧ (0 < s.length → k ≤ s.length) ∧ (∀ x, s[k - 1]? = some x → apartMods s = apartFrom x.Name (s.drop k)) ∧ H' = H ∧ ρ = [(0, .sl (s.map eMod)), (4, int k)]) (s.length - 1) ⟨1, rfl, by omega, by omega, ?_, rfl, rfl⟩ ?_
  · intro x hx
    cases s with
    | nil => simp at hx
    | cons y r => simp at hx; subst hx; rfl
  rintro m ρ H' ⟨k, rfl, hk1, hk2, hap, rfl, rfl⟩
  simp -implicitDefEqProofs only [go_sem, ↓reduceIte, Nat.reduceEqDiff, Nat.reduceAdd, Nat.reduceSub, Nat.reduceMul, Nat.reduceLeDiff, reduceCtorEq, Bool.false_eq_true, Nat.reduceLT, aAppend]
  refine ACode.seq ?_
  refine ACode.seq ?_
  refine ACode.region [0, 4, 10] rfl fun K1 hK => ?_
  simp -implicitDefEqProofs only [go_sem, ↓reduceIte, Nat.reduceEqDiff, Nat.reduceAdd, Nat.reduceSub, Nat.reduceMul, Nat.reduceLeDiff, reduceCtorEq, Bool.false_eq_true, Nat.reduceLT, aAppend]
  refine hK _ _ ?_ _ (by simp -implicitDefEqProofs only [go_sem, ↓reduceIte, Nat.reduceEqDiff, Nat.reduceAdd, Nat.reduceSub, Nat.reduceMul, Nat.reduceLeDiff, reduceCtorEq, Bool.false_eq_true, Nat.reduceLT]; rfl); clear hK K1
  refine ACode.cond rfl (fun h => ?_) (fun h => ?_)
  · -- yes
    try simp only [decide_eq_true_eq] at h
    obtain ⟨x, hx, hd, -, -⟩ := at_drop s k (by omega)
    obtain ⟨y, hy, -, -, -⟩ := at_drop s (k - 1) (by omega)
    have hap2 := hap y hy
    rw [hd, apartFrom] at hap2
    have e1 : (k : Int) - 1 = ((k - 1 : Nat) : Int) := by omega
    refine ACode.skip ?_
    refine ACode.seq ?_
    refine ACode.block ?_
    refine ACode.seq ?_
    refine ACode.region_draw [0, 4, 24] [(0, 0), (1, 0), (2, 0), (3, 0), (4, 0), (6, 0), (7, 0), (8, 0), (9, 0), (5, 1), (10, 1), (11, 0)] (by kernel_rfl) (by kernel_rfl) rfl (by kernel_rfl) fun K1 hK => ?_
    simp -implicitDefEqProofs only [go_sem, ↓reduceIte, Nat.reduceEqDiff, Nat.reduceAdd, Nat.reduceSub, Nat.reduceMul, Nat.reduceLeDiff, reduceCtorEq, Bool.false_eq_true, Nat.reduceLT, aAppend]
    rw [wrap_i64 (by omega) (by omega), e1]
    simp -implicitDefEqProofs only [go_sem, ↓reduceIte, Nat.reduceEqDiff, Nat.reduceAdd, Nat.reduceSub, Nat.reduceMul, Nat.reduceLeDiff, reduceCtorEq, Bool.false_eq_true, Nat.reduceLT, aAppend, hx, hy, eMod]
    refine hK _ _ ?_ _ (by simp -implicitDefEqProofs only [go_sem, ↓reduceIte, Nat.reduceEqDiff, Nat.reduceAdd, Nat.reduceSub, Nat.reduceMul, Nat.reduceLeDiff, reduceCtorEq, Bool.false_eq_true, Nat.reduceLT]; rfl); clear hK K1
    refine ACode.cond rfl (fun h => ?_) (fun h => ?_)
    · -- yes
      try simp only [decide_eq_true_eq] at h
      rw [if_pos h.symm] at hap2
      refine ACode.seq ?_
      refine ACode.region [2, 3] rfl fun K1 hK => ?_
      simp -implicitDefEqProofs only [go_sem, ↓reduceIte, Nat.reduceEqDiff, Nat.reduceAdd, Nat.reduceSub, Nat.reduceMul, Nat.reduceLeDiff, reduceCtorEq, Bool.false_eq_true, Nat.reduceLT, aAppend]
      refine hK _ _ ?_ _ (by simp -implicitDefEqProofs only [go_sem, ↓reduceIte, Nat.reduceEqDiff, Nat.reduceAdd, Nat.reduceSub, Nat.reduceMul, Nat.reduceLeDiff, reduceCtorEq, Bool.false_eq_true, Nat.reduceLT]; rfl); clear hK K1
      refine ACode.ret ?_
      exact h1 hap2
    · -- no
      try simp only [decide_eq_false_iff_not] at h
      rw [if_neg (fun e => h e.symm)] at hap2
      refine ACode.skip ?_
      refine ACode.region [0, 4] rfl fun K1 hK => ?_
      simp -implicitDefEqProofs only [go_sem, ↓reduceIte, Nat.reduceEqDiff, Nat.reduceAdd, Nat.reduceSub, Nat.reduceMul, Nat.reduceLeDiff, reduceCtorEq, Bool.false_eq_true, Nat.reduceLT, aAppend]
      rw [wrap_i64 (by omega) (by omega)]
      refine hK _ _ ?_ _ (by simp -implicitDefEqProofs only [go_sem, ↓reduceIte, Nat.reduceEqDiff, Nat.reduceAdd, Nat.reduceSub, Nat.reduceMul, Nat.reduceLeDiff, reduceCtorEq, Bool.false_eq_true, Nat.reduceLT]; rfl); clear hK K1
      refine ⟨_, by omega, k + 1, rfl, by omega, by omega, fun z hz => ?_, rfl, by simp <;> rfl⟩
      rw [Nat.add_sub_cancel, hx] at hz
      cases hz
      exact hap2
  · -- no
    try simp only [decide_eq_false_iff_not] at h
    refine ACode.exit ?_
    have hap3 : apartMods s = true := by
      rcases Nat.eq_zero_or_pos s.length with h0 | h0
      · have : s = [] := List.eq_nil_of_length_eq_zero h0
        subst this; rfl
      · obtain ⟨y, hy, -, -, -⟩ := at_drop s (k - 1) (by omega)
        rw [hap y hy, drop_end s k h]; rfl
    refine ACode.seq ?_
    refine ACode.region [2, 3] rfl fun K1 hK => ?_
    simp -implicitDefEqProofs only [go_sem, ↓reduceIte, Nat.reduceEqDiff, Nat.reduceAdd, Nat.reduceSub, Nat.reduceMul, Nat.reduceLeDiff, reduceCtorEq, Bool.false_eq_true, Nat.reduceLT, aAppend]
    intro b hb
    refine hK _ _ ?_ _ (by simp -implicitDefEqProofs only [go_sem, ↓reduceIte, Nat.reduceEqDiff, Nat.reduceAdd, Nat.reduceSub, Nat.reduceMul, Nat.reduceLeDiff, reduceCtorEq, Bool.false_eq_true, Nat.reduceLT]; rfl); clear hK K1
    refine ACode.ret ?_
    exact h2 hap3 b hb


/-- whetstone/whetstoneref31.New -/
theorem c7 (l : List Mod) (hl : l.length ≤ 20) (H : Heap) (K : AV → Heap → Prop)
    (h1 : apartMods (sortMods l) = false → K (.tup [.v (.pointer none), int 4]) H)
    (h2 : apartMods (sortMods l) = true → ∀ p, H p = none → ∀ b, H b = none → b ≠ p → K (.tup [.bp b 0 [], int 0]) ((H.upd p (.arr 2 [eState ⟨[], sortMods l⟩])).upd b (.box (.agg [.slr p 2 0 1, .v (.slice none 0 0)])))) :
    ACalls Try.prog 7 [.sl (l.map eMod)] H K := by
  refine ACalls.of_code Try.func7 rfl (by kernel_rfl) rfl (by simp [Try.ntmps7]) ?_
  rw [Try.ntmps7, Try.results7]; simp -implicitDefEqProofs only [go_sem, ↓reduceIte, Nat.reduceEqDiff, Nat.reduceAdd, Nat.reduceSub, Nat.reduceMul, Nat.reduceLeDiff, reduceCtorEq, Bool.false_eq_true, Nat.reduceLT, aAppend]
  refine ACode.seq ?_
  refine ACode.region [0] rfl fun K1 hK => ?_
  simp -implicitDefEqProofs only [go_sem, ↓reduceIte, Nat.reduceEqDiff, Nat.reduceAdd, Nat.reduceSub, Nat.reduceMul, Nat.reduceLeDiff, reduceCtorEq, Bool.false_eq_true, Nat.reduceLT, aAppend]
  refine hK _ _ ?_ _ (by simp -implicitDefEqProofs only [go_sem, ↓reduceIte, Nat.reduceEqDiff, Nat.reduceAdd, Nat.reduceSub, Nat.reduceMul, Nat.reduceLeDiff, reduceCtorEq, Bool.false_eq_true, Nat.reduceLT]; rfl); clear hK K1
  refine ACode.seq ?_
  refine ACode.region [4] rfl fun K1 hK => ?_
  simp -implicitDefEqProofs only [go_sem, ↓reduceIte, Nat.reduceEqDiff, Nat.reduceAdd, Nat.reduceSub, Nat.reduceMul, Nat.reduceLeDiff, reduceCtorEq, Bool.false_eq_true, Nat.reduceLT, aAppend]
  refine c22 l (by omega) _ _ ?_
  simp -implicitDefEqProofs only [go_sem, ↓reduceIte, Nat.reduceEqDiff, Nat.reduceAdd, Nat.reduceSub, Nat.reduceMul, Nat.reduceLeDiff, reduceCtorEq, Bool.false_eq_true, Nat.reduceLT, aAppend]
  refine hK _ _ ?_ _ (by simp -implicitDefEqProofs only [go_sem, ↓reduceIte, Nat.reduceEqDiff, Nat.reduceAdd, Nat.reduceSub, Nat.reduceMul, Nat.reduceLeDiff, reduceCtorEq, Bool.false_eq_true, Nat.reduceLT]; rfl); clear hK K1
  have hsl : (sortMods l).length = l.length := by rw [sortMods, List.length_reverse, sortR_length]
  generalize hss : sortMods l = s at *
  refine ACode.seq ?_
  refine ACode.seq ?_
  refine ACode.region [4, 5] rfl fun K1 hK => ?_
  simp -implicitDefEqProofs only [go_sem, ↓reduceIte, Nat.reduceEqDiff, Nat.reduceAdd, Nat.reduceSub, Nat.reduceMul, Nat.reduceLeDiff, reduceCtorEq, Bool.false_eq_true, Nat.reduceLT, aAppend]
  refine hK _ _ ?_ _ (by simp -implicitDefEqProofs only [go_sem, ↓reduceIte, Nat.reduceEqDiff, Nat.reduceAdd, Nat.reduceSub, Nat.reduceMul, Nat.reduceLeDiff, reduceCtorEq, Bool.false_eq_true, Nat.reduceLT]; rfl); clear hK K1
  refine ACode.block ?_
  refine ACode.loop (fun m ρ H' => ∃ k : Nat, m = s.length - k ∧ 1 ≤ k ∧ (0 < s.length → k ≤ s.length) ∧ (∀ x, s[k - 1]? = some x → apartMods s = apartFrom x.Name (s.drop k)) ∧ H' = H ∧ ρ = [(4, .sl (s.map eMod)), (5, int k)]) (s.length - 1) ⟨1, rfl, by omega, by omega, ?_, rfl, rfl⟩ ?_
  · intro x hx
    cases s with
    | nil => simp at hx
    | cons y r => simp at hx; subst hx; rfl
  rintro m ρ H' ⟨k, rfl, hk1, hk2, hap, rfl, rfl⟩
  simp -implicitDefEqProofs only [go_sem, ↓reduceIte, Nat.reduceEqDiff, Nat.reduceAdd, Nat.reduceSub, Nat.reduceMul, Nat.reduceLeDiff, reduceCtorEq, Bool.false_eq_true, Nat.reduceLT, aAppend]
  refine ACode.seq ?_
  refine ACode.seq ?_
  refine ACode.region [4, 5, 11] rfl fun K1 hK => ?_
  simp -implicitDefEqProofs only [go_sem, ↓reduceIte, Nat.reduceEqDiff, Nat.reduceAdd, Nat.reduceSub, Nat.reduceMul, Nat.reduceLeDiff, reduceCtorEq, Bool.false_eq_true, Nat.reduceLT, aAppend]
  refine hK _ _ ?_ _ (by simp -implicitDefEqProofs only [go_sem, ↓reduceIte, Nat.reduceEqDiff, Nat.reduceAdd, Nat.reduceSub, Nat.reduceMul, Nat.reduceLeDiff, reduceCtorEq, Bool.false_eq_true, Nat.reduceLT]; rfl); clear hK K1
  refine ACode.cond rfl (fun h => ?_) (fun h => ?_)
  · -- yes
    try simp only [decide_eq_true_eq] at h
    obtain ⟨x, hx, hd, -, -⟩ := at_drop s k (by omega)
    obtain ⟨y, hy, -, -, -⟩ := at_drop s (k - 1) (by omega)
    have hap2 := hap y hy
    rw [hd, apartFrom] at hap2
    have e1 : (k : Int) - 1 = ((k - 1 : Nat) : Int) := by omega
    refine ACode.skip ?_
    refine ACode.seq ?_
    refine ACode.block ?_
    refine ACode.seq ?_
    refine ACode.region_draw [4, 5, 25] [(0, 0), (1, 0), (2, 0), (3, 0), (5, 0), (6, 0), (7, 0), (8, 0), (9, 0), (4, 1), (10, 1), (11, 0)] (by kernel_rfl) (by kernel_rfl) rfl (by kernel_rfl) fun K1 hK => ?_
    simp -implicitDefEqProofs only [go_sem, ↓reduceIte, Nat.reduceEqDiff, Nat.reduceAdd, Nat.reduceSub, Nat.reduceMul, Nat.reduceLeDiff, reduceCtorEq, Bool.false_eq_true, Nat.reduceLT, aAppend]
    rw [wrap_i64 (by omega) (by omega), e1]
    simp -implicitDefEqProofs only [go_sem, ↓reduceIte, Nat.reduceEqDiff, Nat.reduceAdd, Nat.reduceSub, Nat.reduceMul, Nat.reduceLeDiff, reduceCtorEq, Bool.false_eq_true, Nat.reduceLT, aAppend, hx, hy, eMod]
    refine hK _ _ ?_ _ (by simp -implicitDefEqProofs only [go_sem, ↓reduceIte, Nat.reduceEqDiff, Nat.reduceAdd, Nat.reduceSub, Nat.reduceMul, Nat.reduceLeDiff, reduceCtorEq, Bool.false_eq_true, Nat.reduceLT]; rfl); clear hK K1
    refine ACode.cond rfl (fun h => ?_) (fun h => ?_)
    · -- yes
      try simp only [decide_eq_true_eq] at h
      rw [if_pos h] at hap2
      refine ACode.seq ?_
      refine ACode.region [2, 3] rfl fun K1 hK => ?_
      simp -implicitDefEqProofs only [go_sem, ↓reduceIte, Nat.reduceEqDiff, Nat.reduceAdd, Nat.reduceSub, Nat.reduceMul, Nat.reduceLeDiff, reduceCtorEq, Bool.false_eq_true, Nat.reduceLT, aAppend]
      refine hK _ _ ?_ _ (by simp -implicitDefEqProofs only [go_sem, ↓reduceIte, Nat.reduceEqDiff, Nat.reduceAdd, Nat.reduceSub, Nat.reduceMul, Nat.reduceLeDiff, reduceCtorEq, Bool.false_eq_true, Nat.reduceLT]; rfl); clear hK K1
      refine ACode.ret ?_
      exact h1 hap2
    · -- no
      try simp only [decide_eq_false_iff_not] at h
      rw [if_neg h] at hap2
      refine ACode.skip ?_
      refine ACode.region [4, 5] rfl fun K1 hK => ?_
      simp -implicitDefEqProofs only [go_sem, ↓reduceIte, Nat.reduceEqDiff, Nat.reduceAdd, Nat.reduceSub, Nat.reduceMul, Nat.reduceLeDiff, reduceCtorEq, Bool.false_eq_true, Nat.reduceLT, aAppend]
      rw [wrap_i64 (by omega) (by omega)]
      refine hK _ _ ?_ _ (by simp -implicitDefEqProofs only [go_sem, ↓reduceIte, Nat.reduceEqDiff, Nat.reduceAdd, Nat.reduceSub, Nat.reduceMul, Nat.reduceLeDiff, reduceCtorEq, Bool.false_eq_true, Nat.reduceLT]; rfl); clear hK K1
      refine ⟨_, by omega, k + 1, rfl, by omega, by omega, fun z hz => ?_, rfl, by simp <;> rfl⟩
      rw [Nat.add_sub_cancel, hx] at hz
      cases hz
      exact hap2
  · -- no
    try simp only [decide_eq_false_iff_not] at h
    refine ACode.exit ?_
    have hap3 : apartMods s = true := by
      rcases Nat.eq_zero_or_pos s.length with h0 | h0
      · have : s = [] := List.eq_nil_of_length_eq_zero h0
        subst this; rfl
      · obtain ⟨y, hy, -, -, -⟩ := at_drop s (k - 1) (by omega)
        rw [hap y hy, drop_end s k h]; rfl
    refine ACode.seq ?_
    refine ACode.region [2, 3] rfl fun K1 hK => ?_
    simp -implicitDefEqProofs only [go_sem, ↓reduceIte, Nat.reduceEqDiff, Nat.reduceAdd, Nat.reduceSub, Nat.reduceMul, Nat.reduceLeDiff, reduceCtorEq, Bool.false_eq_true, Nat.reduceLT, aAppend]
    intro p hp b hb
    have hbp : b ≠ p := fun e => by subst e; rw [Heap.upd_same] at hb; cases hb
    rw [Heap.upd_other _ _ hbp] at hb
    refine hK _ _ ?_ _ (by simp -implicitDefEqProofs only [go_sem, ↓reduceIte, Nat.reduceEqDiff, Nat.reduceAdd, Nat.reduceSub, Nat.reduceMul, Nat.reduceLeDiff, reduceCtorEq, Bool.false_eq_true, Nat.reduceLT]; rfl); clear hK K1
    refine ACode.ret ?_
    exact h2 hap3 p hp b hb hbp


end Go.Flow

