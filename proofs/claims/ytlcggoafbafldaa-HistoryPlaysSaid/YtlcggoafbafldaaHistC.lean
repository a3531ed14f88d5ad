/-
  Small functions: light modules, the same modules and texts, a step that fits, a sound list once more. No condition.
-/
import Derived.Test.YtlcggoafbafldaaHistB
set_option linter.unusedVariables false
set_option linter.unusedSimpArgs false
set_option maxRecDepth 20000
namespace Go.Flow
open Go Go.Proofs

/-- cmp.Compare, of texts -/
theorem c33 (a b : List UInt8) (H : Heap) (K : AV → Heap → Prop) (hk : K (int (cmpS a b)) H) : ACalls Try.prog 33 [str a, str b] H K := by
  refine ACalls.of_code Try.func33 rfl (by kernel_rfl) rfl (by simp [Try.ntmps33]) ?_
  rw [Try.ntmps33, Try.results33]; simp -implicitDefEqProofs only [go_sem, ↓reduceIte, Nat.reduceEqDiff, Nat.reduceAdd, Nat.reduceSub, Nat.reduceMul, Nat.reduceLeDiff, reduceCtorEq, Bool.false_eq_true, Nat.reduceLT, aAppend]
  refine ACode.seq ?_
  refine ACode.region [0, 1] rfl fun K1 hK => ?_
  simp -implicitDefEqProofs only [go_sem, ↓reduceIte, Nat.reduceEqDiff, Nat.reduceAdd, Nat.reduceSub, Nat.reduceMul, Nat.reduceLeDiff, reduceCtorEq, Bool.false_eq_true, Nat.reduceLT, aAppend]
  refine hK _ _ ?_ _ (by simp -implicitDefEqProofs only [go_sem, ↓reduceIte, Nat.reduceEqDiff, Nat.reduceAdd, Nat.reduceSub, Nat.reduceMul, Nat.reduceLeDiff, reduceCtorEq, Bool.false_eq_true, Nat.reduceLT]; rfl); clear hK K1
  refine ACode.seq ?_
  refine ACode.region [0, 1, 5] rfl fun K1 hK => ?_
  simp -implicitDefEqProofs only [go_sem, ↓reduceIte, Nat.reduceEqDiff, Nat.reduceAdd, Nat.reduceSub, Nat.reduceMul, Nat.reduceLeDiff, reduceCtorEq, Bool.false_eq_true, Nat.reduceLT, aAppend]
  refine c43 a _ _ ?_
  simp -implicitDefEqProofs only [go_sem, ↓reduceIte, Nat.reduceEqDiff, Nat.reduceAdd, Nat.reduceSub, Nat.reduceMul, Nat.reduceLeDiff, reduceCtorEq, Bool.false_eq_true, Nat.reduceLT, aAppend]
  refine hK _ _ ?_ _ (by simp -implicitDefEqProofs only [go_sem, ↓reduceIte, Nat.reduceEqDiff, Nat.reduceAdd, Nat.reduceSub, Nat.reduceMul, Nat.reduceLeDiff, reduceCtorEq, Bool.false_eq_true, Nat.reduceLT]; rfl); clear hK K1
  refine ACode.seq ?_
  refine ACode.region [0, 1, 5, 6] rfl fun K1 hK => ?_
  simp -implicitDefEqProofs only [go_sem, ↓reduceIte, Nat.reduceEqDiff, Nat.reduceAdd, Nat.reduceSub, Nat.reduceMul, Nat.reduceLeDiff, reduceCtorEq, Bool.false_eq_true, Nat.reduceLT, aAppend]
  refine c43 b _ _ ?_
  simp -implicitDefEqProofs only [go_sem, ↓reduceIte, Nat.reduceEqDiff, Nat.reduceAdd, Nat.reduceSub, Nat.reduceMul, Nat.reduceLeDiff, reduceCtorEq, Bool.false_eq_true, Nat.reduceLT, aAppend]
  refine hK _ _ ?_ _ (by simp -implicitDefEqProofs only [go_sem, ↓reduceIte, Nat.reduceEqDiff, Nat.reduceAdd, Nat.reduceSub, Nat.reduceMul, Nat.reduceLeDiff, reduceCtorEq, Bool.false_eq_true, Nat.reduceLT]; rfl); clear hK K1
  refine ACode.seq ?_
  refine ACode.seq ?_
  refine ACode.region [0, 1, 6, 11] rfl fun K1 hK => ?_
  simp -implicitDefEqProofs only [go_sem, ↓reduceIte, Nat.reduceEqDiff, Nat.reduceAdd, Nat.reduceSub, Nat.reduceMul, Nat.reduceLeDiff, reduceCtorEq, Bool.false_eq_true, Nat.reduceLT, aAppend]
  refine hK _ _ ?_ _ (by simp -implicitDefEqProofs only [go_sem, ↓reduceIte, Nat.reduceEqDiff, Nat.reduceAdd, Nat.reduceSub, Nat.reduceMul, Nat.reduceLeDiff, reduceCtorEq, Bool.false_eq_true, Nat.reduceLT]; rfl); clear hK K1
  refine ACode.cond rfl (fun h => ?_) (fun h => ?_)
  · -- yes
    cases h
  · -- no
    try simp only [decide_eq_false_iff_not] at h
    refine ACode.skip ?_
    refine ACode.seq ?_
    refine ACode.seq ?_
    refine ACode.region [0, 1, 13] rfl fun K1 hK => ?_
    simp -implicitDefEqProofs only [go_sem, ↓reduceIte, Nat.reduceEqDiff, Nat.reduceAdd, Nat.reduceSub, Nat.reduceMul, Nat.reduceLeDiff, reduceCtorEq, Bool.false_eq_true, Nat.reduceLT, aAppend]
    refine hK _ _ ?_ _ (by simp -implicitDefEqProofs only [go_sem, ↓reduceIte, Nat.reduceEqDiff, Nat.reduceAdd, Nat.reduceSub, Nat.reduceMul, Nat.reduceLeDiff, reduceCtorEq, Bool.false_eq_true, Nat.reduceLT]; rfl); clear hK K1
    refine ACode.cond rfl (fun h => ?_) (fun h => ?_)
    · -- yes
      cases h
    · -- no
      try simp only [decide_eq_false_iff_not] at h
      refine ACode.skip ?_
      refine ACode.seq ?_
      refine ACode.seq ?_
      refine ACode.region [0, 1, 16] rfl fun K1 hK => ?_
      simp -implicitDefEqProofs only [go_sem, ↓reduceIte, Nat.reduceEqDiff, Nat.reduceAdd, Nat.reduceSub, Nat.reduceMul, Nat.reduceLeDiff, reduceCtorEq, Bool.false_eq_true, Nat.reduceLT, aAppend]
      refine hK _ _ ?_ _ (by simp -implicitDefEqProofs only [go_sem, ↓reduceIte, Nat.reduceEqDiff, Nat.reduceAdd, Nat.reduceSub, Nat.reduceMul, Nat.reduceLeDiff, reduceCtorEq, Bool.false_eq_true, Nat.reduceLT]; rfl); clear hK K1
      refine ACode.cond rfl (fun h => ?_) (fun h => ?_)
      · -- yes
        try simp only [decide_eq_true_eq] at h
        refine ACode.seq ?_
        refine ACode.region [4] rfl fun K1 hK => ?_
        simp -implicitDefEqProofs only [go_sem, ↓reduceIte, Nat.reduceEqDiff, Nat.reduceAdd, Nat.reduceSub, Nat.reduceMul, Nat.reduceLeDiff, reduceCtorEq, Bool.false_eq_true, Nat.reduceLT, aAppend]
        refine hK _ _ ?_ _ (by simp -implicitDefEqProofs only [go_sem, ↓reduceIte, Nat.reduceEqDiff, Nat.reduceAdd, Nat.reduceSub, Nat.reduceMul, Nat.reduceLeDiff, reduceCtorEq, Bool.false_eq_true, Nat.reduceLT]; rfl); clear hK K1
        refine ACode.ret ?_
        rw [cmpS, if_pos h] at hk
        exact hk
      · -- no
        try simp only [decide_eq_false_iff_not] at h
        have h2 : ¬ (Op.bytesLess a b = true) := by simpa using h
        refine ACode.skip ?_
        refine ACode.seq ?_
        refine ACode.seq ?_
        refine ACode.region [19] rfl fun K1 hK => ?_
        simp -implicitDefEqProofs only [go_sem, ↓reduceIte, Nat.reduceEqDiff, Nat.reduceAdd, Nat.reduceSub, Nat.reduceMul, Nat.reduceLeDiff, reduceCtorEq, Bool.false_eq_true, Nat.reduceLT, aAppend]
        refine hK _ _ ?_ _ (by simp -implicitDefEqProofs only [go_sem, ↓reduceIte, Nat.reduceEqDiff, Nat.reduceAdd, Nat.reduceSub, Nat.reduceMul, Nat.reduceLeDiff, reduceCtorEq, Bool.false_eq_true, Nat.reduceLT]; rfl); clear hK K1
        refine ACode.cond rfl (fun h => ?_) (fun h => ?_)
        · -- yes
          try simp only [decide_eq_true_eq] at h
          refine ACode.seq ?_
          refine ACode.region [4] rfl fun K1 hK => ?_
          simp -implicitDefEqProofs only [go_sem, ↓reduceIte, Nat.reduceEqDiff, Nat.reduceAdd, Nat.reduceSub, Nat.reduceMul, Nat.reduceLeDiff, reduceCtorEq, Bool.false_eq_true, Nat.reduceLT, aAppend]
          refine hK _ _ ?_ _ (by simp -implicitDefEqProofs only [go_sem, ↓reduceIte, Nat.reduceEqDiff, Nat.reduceAdd, Nat.reduceSub, Nat.reduceMul, Nat.reduceLeDiff, reduceCtorEq, Bool.false_eq_true, Nat.reduceLT]; rfl); clear hK K1
          refine ACode.ret ?_
          rw [cmpS, if_neg h2, if_pos h] at hk
          exact hk
        · -- no
          try simp only [decide_eq_false_iff_not] at h
          refine ACode.skip ?_
          refine ACode.seq ?_
          refine ACode.region [4] rfl fun K1 hK => ?_
          simp -implicitDefEqProofs only [go_sem, ↓reduceIte, Nat.reduceEqDiff, Nat.reduceAdd, Nat.reduceSub, Nat.reduceMul, Nat.reduceLeDiff, reduceCtorEq, Bool.false_eq_true, Nat.reduceLT, aAppend]
          refine hK _ _ ?_ _ (by simp -implicitDefEqProofs only [go_sem, ↓reduceIte, Nat.reduceEqDiff, Nat.reduceAdd, Nat.reduceSub, Nat.reduceMul, Nat.reduceLeDiff, reduceCtorEq, Bool.false_eq_true, Nat.reduceLT]; rfl); clear hK K1
          refine ACode.ret ?_
          rw [cmpS, if_neg h2, if_neg (by rw [h]; decide)] at hk
          exact hk


/-- whetstone/change.Sort$1 -/
theorem c32 (a b : Mod) (H : Heap) (K : AV → Heap → Prop) (hk : K (int (cmpS a.Name b.Name)) H) : ACalls Try.prog 32 [eMod a, eMod b] H K := by
  refine ACalls.of_code Try.func32 rfl (by kernel_rfl) rfl (by simp [Try.ntmps32]) ?_
  rw [Try.ntmps32, Try.results32]; simp -implicitDefEqProofs only [go_sem, ↓reduceIte, Nat.reduceEqDiff, Nat.reduceAdd, Nat.reduceSub, Nat.reduceMul, Nat.reduceLeDiff, reduceCtorEq, Bool.false_eq_true, Nat.reduceLT, aAppend]
  refine ACode.seq ?_
  refine ACode.region [2, 3] rfl fun K1 hK => ?_
  simp -implicitDefEqProofs only [go_sem, ↓reduceIte, Nat.reduceEqDiff, Nat.reduceAdd, Nat.reduceSub, Nat.reduceMul, Nat.reduceLeDiff, reduceCtorEq, Bool.false_eq_true, Nat.reduceLT, aAppend, eMod]
  intro p hp q hq
  refine hK _ _ ?_ _ (by simp -implicitDefEqProofs only [go_sem, ↓reduceIte, Nat.reduceEqDiff, Nat.reduceAdd, Nat.reduceSub, Nat.reduceMul, Nat.reduceLeDiff, reduceCtorEq, Bool.false_eq_true, Nat.reduceLT]; rfl); clear hK K1
  have hpq : p ≠ q := by intro e; subst e; rw [Heap.upd_same] at hq; cases hq
  refine ACode.freeze q (Heap.upd_same _ _ _) ?_
  simp -implicitDefEqProofs only [go_sem, ↓reduceIte, Nat.reduceEqDiff, Nat.reduceAdd, Nat.reduceSub, Nat.reduceMul, Nat.reduceLeDiff, reduceCtorEq, Bool.false_eq_true, Nat.reduceLT, aAppend, Heap.erase_upd_same _ q _ hq, hpq]
  refine ACode.freeze p (Heap.upd_same _ _ _) ?_
  simp -implicitDefEqProofs only [go_sem, ↓reduceIte, Nat.reduceEqDiff, Nat.reduceAdd, Nat.reduceSub, Nat.reduceMul, Nat.reduceLeDiff, reduceCtorEq, Bool.false_eq_true, Nat.reduceLT, aAppend, Heap.erase_upd_same _ p _ hp]
  refine ACode.seq ?_
  refine ACode.region [4] rfl fun K1 hK => ?_
  simp -implicitDefEqProofs only [go_sem, ↓reduceIte, Nat.reduceEqDiff, Nat.reduceAdd, Nat.reduceSub, Nat.reduceMul, Nat.reduceLeDiff, reduceCtorEq, Bool.false_eq_true, Nat.reduceLT, aAppend]
  refine c33 a.Name b.Name _ _ ?_
  simp -implicitDefEqProofs only [go_sem, ↓reduceIte, Nat.reduceEqDiff, Nat.reduceAdd, Nat.reduceSub, Nat.reduceMul, Nat.reduceLeDiff, reduceCtorEq, Bool.false_eq_true, Nat.reduceLT, aAppend]
  refine hK _ _ ?_ _ (by simp -implicitDefEqProofs only [go_sem, ↓reduceIte, Nat.reduceEqDiff, Nat.reduceAdd, Nat.reduceSub, Nat.reduceMul, Nat.reduceLeDiff, reduceCtorEq, Bool.false_eq_true, Nat.reduceLT]; rfl); clear hK K1
  refine ACode.ret ?_
  exact hk


def lightFrom (n most : Int) : List Mod → Bool
  | [] => true
  | m :: r => if most < n + ((m.Name.length : Int) + m.Text.length) then false else lightFrom (n + ((m.Name.length : Int) + m.Text.length)) most r
def Light (l : List Mod) (most : Int) : Bool := lightFrom 0 most l && decide (l.length ≤ 20)

/-- whetstone/whetstonelaw13.Light -/
theorem c4 (l : List Mod) (most : Int) (h0 : 0 ≤ most) (h1 : most ≤ 1000000) (hl : l.length ≤ 140737488355328) (hs : ∀ m ∈ l, m.Name.length ≤ 140737488355328 ∧ m.Text.length ≤ 140737488355328)
    (H : Heap) (K : AV → Heap → Prop) (hk : K (boo (Light l most)) H) : ACalls Try.prog 4 [.sl (l.map eMod), int most] H K := by
  refine ACalls.of_code Try.func4 rfl (by kernel_rfl) rfl (by simp [Try.ntmps4]) ?_
  rw [Try.ntmps4, Try.results4]; simp -implicitDefEqProofs only [go_sem, ↓reduceIte, Nat.reduceEqDiff, Nat.reduceAdd, Nat.reduceSub, Nat.reduceMul, Nat.reduceLeDiff, reduceCtorEq, Bool.false_eq_true, Nat.reduceLT, aAppend]
  refine ACode.seq ?_
  refine ACode.region [0, 1] rfl fun K1 hK => ?_
  simp -implicitDefEqProofs only [go_sem, ↓reduceIte, Nat.reduceEqDiff, Nat.reduceAdd, Nat.reduceSub, Nat.reduceMul, Nat.reduceLeDiff, reduceCtorEq, Bool.false_eq_true, Nat.reduceLT, aAppend]
  refine hK _ _ ?_ _ (by simp -implicitDefEqProofs only [go_sem, ↓reduceIte, Nat.reduceEqDiff, Nat.reduceAdd, Nat.reduceSub, Nat.reduceMul, Nat.reduceLeDiff, reduceCtorEq, Bool.false_eq_true, Nat.reduceLT]; rfl); clear hK K1
  refine ACode.seq ?_
  refine ACode.region [0, 1, 5] rfl fun K1 hK => ?_
  simp -implicitDefEqProofs only [go_sem, ↓reduceIte, Nat.reduceEqDiff, Nat.reduceAdd, Nat.reduceSub, Nat.reduceMul, Nat.reduceLeDiff, reduceCtorEq, Bool.false_eq_true, Nat.reduceLT, aAppend]
  refine hK _ _ ?_ _ (by simp -implicitDefEqProofs only [go_sem, ↓reduceIte, Nat.reduceEqDiff, Nat.reduceAdd, Nat.reduceSub, Nat.reduceMul, Nat.reduceLeDiff, reduceCtorEq, Bool.false_eq_true, Nat.reduceLT]; rfl); clear hK K1
  refine ACode.seq ?_
  refine ACode.seq ?_
  refine ACode.region [0, 1, 5, 8, 9, 10] rfl fun K1 hK => ?_
  simp -implicitDefEqProofs only [go_sem, ↓reduceIte, Nat.reduceEqDiff, Nat.reduceAdd, Nat.reduceSub, Nat.reduceMul, Nat.reduceLeDiff, reduceCtorEq, Bool.false_eq_true, Nat.reduceLT, aAppend]
  refine hK _ _ ?_ _ (by simp -implicitDefEqProofs only [go_sem, ↓reduceIte, Nat.reduceEqDiff, Nat.reduceAdd, Nat.reduceSub, Nat.reduceMul, Nat.reduceLeDiff, reduceCtorEq, Bool.false_eq_true, Nat.reduceLT]; rfl); clear hK K1
  refine ACode.block ?_
  refine ACode.loop (fun m ρ H' => ∃ (k : Nat) (n : Int), m = l.length - k ∧ k ≤ l.length ∧ 0 ≤ n ∧ n ≤ most ∧ lightFrom 0 most l = lightFrom n most (l.drop k) ∧ H' = H ∧ ρ = [(0, .sl (l.map eMod)), (1, int most), (5, int n), (8, .sl (l.map eMod)), (9, int l.length), (10, int k)]) l.length ⟨0, 0, rfl, Nat.zero_le _, by omega, h0, rfl, rfl, rfl⟩ ?_
  rintro m ρ H' ⟨k, n, rfl, hkl, hn0, hn1, hf, rfl, rfl⟩
  simp -implicitDefEqProofs only [go_sem, ↓reduceIte, Nat.reduceEqDiff, Nat.reduceAdd, Nat.reduceSub, Nat.reduceMul, Nat.reduceLeDiff, reduceCtorEq, Bool.false_eq_true, Nat.reduceLT, aAppend]
  refine ACode.seq ?_
  refine ACode.region [0, 1, 5, 8, 9, 10, 11] rfl fun K1 hK => ?_
  simp -implicitDefEqProofs only [go_sem, ↓reduceIte, Nat.reduceEqDiff, Nat.reduceAdd, Nat.reduceSub, Nat.reduceMul, Nat.reduceLeDiff, reduceCtorEq, Bool.false_eq_true, Nat.reduceLT, aAppend]
  refine hK _ _ ?_ _ (by simp -implicitDefEqProofs only [go_sem, ↓reduceIte, Nat.reduceEqDiff, Nat.reduceAdd, Nat.reduceSub, Nat.reduceMul, Nat.reduceLeDiff, reduceCtorEq, Bool.false_eq_true, Nat.reduceLT]; rfl); clear hK K1
  refine ACode.seq ?_
  refine ACode.cond rfl (fun h => ?_) (fun h => ?_)
  · -- yes
    try simp only [decide_eq_true_eq] at h
    obtain ⟨x, hx, hd, hm, -⟩ := at_drop l k (by omega)
    have hb := hs x hm
    refine ACode.skip ?_
    refine ACode.seq ?_
    refine ACode.block ?_
    refine ACode.seq ?_
    refine ACode.region [0, 1, 5, 7, 8, 9, 10] rfl fun K1 hK => ?_
    simp -implicitDefEqProofs only [go_sem, ↓reduceIte, Nat.reduceEqDiff, Nat.reduceAdd, Nat.reduceSub, Nat.reduceMul, Nat.reduceLeDiff, reduceCtorEq, Bool.false_eq_true, Nat.reduceLT, aAppend, hx, eMod]
    intro b hb
    refine hK _ _ ?_ _ (by simp -implicitDefEqProofs only [go_sem, ↓reduceIte, Nat.reduceEqDiff, Nat.reduceAdd, Nat.reduceSub, Nat.reduceMul, Nat.reduceLeDiff, reduceCtorEq, Bool.false_eq_true, Nat.reduceLT]; rfl); clear hK K1
    refine ACode.freeze b (Heap.upd_same _ _ _) ?_
    simp -implicitDefEqProofs only [go_sem, ↓reduceIte, Nat.reduceEqDiff, Nat.reduceAdd, Nat.reduceSub, Nat.reduceMul, Nat.reduceLeDiff, reduceCtorEq, Bool.false_eq_true, Nat.reduceLT, aAppend, Heap.erase_upd_same _ b _ hb]
    refine ACode.seq ?_
    refine ACode.region [0, 1, 5, 8, 9, 10] rfl fun K1 hK => ?_
    simp -implicitDefEqProofs only [go_sem, ↓reduceIte, Nat.reduceEqDiff, Nat.reduceAdd, Nat.reduceSub, Nat.reduceMul, Nat.reduceLeDiff, reduceCtorEq, Bool.false_eq_true, Nat.reduceLT, aAppend]
    rw [wrap_i64 (n := (x.Name.length : Int) + x.Text.length) (by omega) (by omega), wrap_i64 (by omega) (by omega)]
    refine hK _ _ ?_ _ (by simp -implicitDefEqProofs only [go_sem, ↓reduceIte, Nat.reduceEqDiff, Nat.reduceAdd, Nat.reduceSub, Nat.reduceMul, Nat.reduceLeDiff, reduceCtorEq, Bool.false_eq_true, Nat.reduceLT]; rfl); clear hK K1
    refine ACode.seq ?_
    refine ACode.region [0, 1, 5, 8, 9, 10, 25] rfl fun K1 hK => ?_
    simp -implicitDefEqProofs only [go_sem, ↓reduceIte, Nat.reduceEqDiff, Nat.reduceAdd, Nat.reduceSub, Nat.reduceMul, Nat.reduceLeDiff, reduceCtorEq, Bool.false_eq_true, Nat.reduceLT, aAppend]
    refine hK _ _ ?_ _ (by simp -implicitDefEqProofs only [go_sem, ↓reduceIte, Nat.reduceEqDiff, Nat.reduceAdd, Nat.reduceSub, Nat.reduceMul, Nat.reduceLeDiff, reduceCtorEq, Bool.false_eq_true, Nat.reduceLT]; rfl); clear hK K1
    refine ACode.cond rfl (fun h => ?_) (fun h => ?_)
    · -- yes
      try simp only [decide_eq_true_eq] at h
      refine ACode.seq ?_
      refine ACode.region [4] rfl fun K1 hK => ?_
      simp -implicitDefEqProofs only [go_sem, ↓reduceIte, Nat.reduceEqDiff, Nat.reduceAdd, Nat.reduceSub, Nat.reduceMul, Nat.reduceLeDiff, reduceCtorEq, Bool.false_eq_true, Nat.reduceLT, aAppend]
      refine hK _ _ ?_ _ (by simp -implicitDefEqProofs only [go_sem, ↓reduceIte, Nat.reduceEqDiff, Nat.reduceAdd, Nat.reduceSub, Nat.reduceMul, Nat.reduceLeDiff, reduceCtorEq, Bool.false_eq_true, Nat.reduceLT]; rfl); clear hK K1
      refine ACode.ret ?_
      rw [Light, hf, hd, lightFrom, if_pos h] at hk
      exact hk
    · -- no
      try simp only [decide_eq_false_iff_not] at h
      refine ACode.skip ?_
      refine ACode.region [0, 1, 5, 8, 9, 10] rfl fun K1 hK => ?_
      simp -implicitDefEqProofs only [go_sem, ↓reduceIte, Nat.reduceEqDiff, Nat.reduceAdd, Nat.reduceSub, Nat.reduceMul, Nat.reduceLeDiff, reduceCtorEq, Bool.false_eq_true, Nat.reduceLT, aAppend]
      rw [wrap_i64 (by omega) (by omega)]
      refine hK _ _ ?_ _ (by simp -implicitDefEqProofs only [go_sem, ↓reduceIte, Nat.reduceEqDiff, Nat.reduceAdd, Nat.reduceSub, Nat.reduceMul, Nat.reduceLeDiff, reduceCtorEq, Bool.false_eq_true, Nat.reduceLT]; rfl); clear hK K1
      refine ⟨_, by omega, k + 1, _, rfl, by omega, ?_, ?_, ?_, rfl, by simp <;> rfl⟩
      · omega
      · omega
      · rw [hf, hd, lightFrom, if_neg h]
  · -- no
    try simp only [decide_eq_false_iff_not] at h
    refine ACode.exit ?_
    rw [Light, hf, drop_end l k h, lightFrom] at hk
    refine ACode.seq ?_
    refine ACode.region [4] rfl fun K1 hK => ?_
    simp -implicitDefEqProofs only [go_sem, ↓reduceIte, Nat.reduceEqDiff, Nat.reduceAdd, Nat.reduceSub, Nat.reduceMul, Nat.reduceLeDiff, reduceCtorEq, Bool.false_eq_true, Nat.reduceLT, aAppend]
    refine hK _ _ ?_ _ (by simp -implicitDefEqProofs only [go_sem, ↓reduceIte, Nat.reduceEqDiff, Nat.reduceAdd, Nat.reduceSub, Nat.reduceMul, Nat.reduceLeDiff, reduceCtorEq, Bool.false_eq_true, Nat.reduceLT]; rfl); clear hK K1
    refine ACode.ret ?_
    have e : decide ((l.length : Int) ≤ 20) = decide (l.length ≤ 20) := by congr 1; apply propext; omega
    rw [Bool.true_and] at hk
    rw [e]
    exact hk


/-- whetstone/whetstoneref17.Same -/
theorem c16 (a b : List Mod) (ha : a.length ≤ 140737488355328) (hb : b.length ≤ 140737488355328) (H : Heap) (K : AV → Heap → Prop) (hk : K (boo (decide (a = b))) H) : ACalls Try.prog 16 [.sl (a.map eMod), .sl (b.map eMod)] H K := by
  refine ACalls.of_code Try.func16 rfl (by kernel_rfl) rfl (by simp [Try.ntmps16]) ?_
  rw [Try.ntmps16, Try.results16]; simp -implicitDefEqProofs only [go_sem, ↓reduceIte, Nat.reduceEqDiff, Nat.reduceAdd, Nat.reduceSub, Nat.reduceMul, Nat.reduceLeDiff, reduceCtorEq, Bool.false_eq_true, Nat.reduceLT, aAppend]
  refine ACode.seq ?_
  refine ACode.region [0, 1] rfl fun K1 hK => ?_
  simp -implicitDefEqProofs only [go_sem, ↓reduceIte, Nat.reduceEqDiff, Nat.reduceAdd, Nat.reduceSub, Nat.reduceMul, Nat.reduceLeDiff, reduceCtorEq, Bool.false_eq_true, Nat.reduceLT, aAppend]
  refine hK _ _ ?_ _ (by simp -implicitDefEqProofs only [go_sem, ↓reduceIte, Nat.reduceEqDiff, Nat.reduceAdd, Nat.reduceSub, Nat.reduceMul, Nat.reduceLeDiff, reduceCtorEq, Bool.false_eq_true, Nat.reduceLT]; rfl); clear hK K1
  refine ACode.seq ?_
  refine ACode.seq ?_
  refine ACode.region [0, 1, 10] rfl fun K1 hK => ?_
  simp -implicitDefEqProofs only [go_sem, ↓reduceIte, Nat.reduceEqDiff, Nat.reduceAdd, Nat.reduceSub, Nat.reduceMul, Nat.reduceLeDiff, reduceCtorEq, Bool.false_eq_true, Nat.reduceLT, aAppend]
  refine hK _ _ ?_ _ (by simp -implicitDefEqProofs only [go_sem, ↓reduceIte, Nat.reduceEqDiff, Nat.reduceAdd, Nat.reduceSub, Nat.reduceMul, Nat.reduceLeDiff, reduceCtorEq, Bool.false_eq_true, Nat.reduceLT]; rfl); clear hK K1
  refine ACode.cond rfl (fun h => ?_) (fun h => ?_)
  · -- yes
    try simp only [decide_eq_true_eq] at h
    have e : decide (a = b) = false := by rw [decide_eq_false_iff_not]; intro e; subst e; simp at h
    rw [e] at hk
    refine ACode.seq ?_
    refine ACode.region [4] rfl fun K1 hK => ?_
    simp -implicitDefEqProofs only [go_sem, ↓reduceIte, Nat.reduceEqDiff, Nat.reduceAdd, Nat.reduceSub, Nat.reduceMul, Nat.reduceLeDiff, reduceCtorEq, Bool.false_eq_true, Nat.reduceLT, aAppend]
    refine hK _ _ ?_ _ (by simp -implicitDefEqProofs only [go_sem, ↓reduceIte, Nat.reduceEqDiff, Nat.reduceAdd, Nat.reduceSub, Nat.reduceMul, Nat.reduceLeDiff, reduceCtorEq, Bool.false_eq_true, Nat.reduceLT]; rfl); clear hK K1
    refine ACode.ret ?_
    exact hk
  · -- no
    try simp only [decide_eq_false_iff_not] at h
    have hab : a.length = b.length := by simp at h; omega
    refine ACode.skip ?_
    refine ACode.seq ?_
    refine ACode.seq ?_
    refine ACode.region [0, 1, 5] rfl fun K1 hK => ?_
    simp -implicitDefEqProofs only [go_sem, ↓reduceIte, Nat.reduceEqDiff, Nat.reduceAdd, Nat.reduceSub, Nat.reduceMul, Nat.reduceLeDiff, reduceCtorEq, Bool.false_eq_true, Nat.reduceLT, aAppend]
    refine hK _ _ ?_ _ (by simp -implicitDefEqProofs only [go_sem, ↓reduceIte, Nat.reduceEqDiff, Nat.reduceAdd, Nat.reduceSub, Nat.reduceMul, Nat.reduceLeDiff, reduceCtorEq, Bool.false_eq_true, Nat.reduceLT]; rfl); clear hK K1
    refine ACode.block ?_
    refine ACode.loop (fun m ρ H' => ∃ k : Nat, m = a.length - k ∧ k ≤ a.length ∧ (a = b ↔ a.drop k = b.drop k) ∧ H' = H ∧ ρ = [(0, .sl (a.map eMod)), (1, .sl (b.map eMod)), (5, int k)]) a.length ⟨0, rfl, Nat.zero_le _, by simp, rfl, rfl⟩ ?_
    rintro m ρ H' ⟨k, rfl, hkl, hs, rfl, rfl⟩
    simp -implicitDefEqProofs only [go_sem, ↓reduceIte, Nat.reduceEqDiff, Nat.reduceAdd, Nat.reduceSub, Nat.reduceMul, Nat.reduceLeDiff, reduceCtorEq, Bool.false_eq_true, Nat.reduceLT, aAppend]
    refine ACode.seq ?_
    refine ACode.seq ?_
    refine ACode.region [0, 1, 5, 14] rfl fun K1 hK => ?_
    simp -implicitDefEqProofs only [go_sem, ↓reduceIte, Nat.reduceEqDiff, Nat.reduceAdd, Nat.reduceSub, Nat.reduceMul, Nat.reduceLeDiff, reduceCtorEq, Bool.false_eq_true, Nat.reduceLT, aAppend]
    refine hK _ _ ?_ _ (by simp -implicitDefEqProofs only [go_sem, ↓reduceIte, Nat.reduceEqDiff, Nat.reduceAdd, Nat.reduceSub, Nat.reduceMul, Nat.reduceLeDiff, reduceCtorEq, Bool.false_eq_true, Nat.reduceLT]; rfl); clear hK K1
    refine ACode.cond rfl (fun h => ?_) (fun h => ?_)
    · -- yes
      try simp only [decide_eq_true_eq] at h
      obtain ⟨x, hx, hd, -, -⟩ := at_drop a k (by omega)
      obtain ⟨y, hy, hd2, -, -⟩ := at_drop b k (by omega)
      refine ACode.skip ?_
      refine ACode.seq ?_
      refine ACode.block ?_
      refine ACode.seq ?_
      refine ACode.region_draw [0, 1, 5, 25] [(0, 0), (1, 0), (2, 0), (4, 0), (5, 0), (6, 0), (3, 1), (7, 1), (8, 0)] (by kernel_rfl) (by kernel_rfl) rfl (by kernel_rfl) fun K1 hK => ?_
      simp -implicitDefEqProofs only [go_sem, ↓reduceIte, Nat.reduceEqDiff, Nat.reduceAdd, Nat.reduceSub, Nat.reduceMul, Nat.reduceLeDiff, reduceCtorEq, Bool.false_eq_true, Nat.reduceLT, aAppend, hx, hy, eMod]
      refine hK _ _ ?_ _ (by simp -implicitDefEqProofs only [go_sem, ↓reduceIte, Nat.reduceEqDiff, Nat.reduceAdd, Nat.reduceSub, Nat.reduceMul, Nat.reduceLeDiff, reduceCtorEq, Bool.false_eq_true, Nat.reduceLT]; rfl); clear hK K1
      refine ACode.cond rfl (fun h => ?_) (fun h => ?_)
      · -- yes
        try simp only [decide_eq_true_eq] at h
        have e : decide (a = b) = false := by
          rw [decide_eq_false_iff_not, hs, hd, hd2]
          intro e
          simp only [List.cons.injEq] at e
          obtain ⟨rfl, -⟩ := e
          simp at h
        rw [e] at hk
        refine ACode.seq ?_
        refine ACode.region [4] rfl fun K1 hK => ?_
        simp -implicitDefEqProofs only [go_sem, ↓reduceIte, Nat.reduceEqDiff, Nat.reduceAdd, Nat.reduceSub, Nat.reduceMul, Nat.reduceLeDiff, reduceCtorEq, Bool.false_eq_true, Nat.reduceLT, aAppend]
        refine hK _ _ ?_ _ (by simp -implicitDefEqProofs only [go_sem, ↓reduceIte, Nat.reduceEqDiff, Nat.reduceAdd, Nat.reduceSub, Nat.reduceMul, Nat.reduceLeDiff, reduceCtorEq, Bool.false_eq_true, Nat.reduceLT]; rfl); clear hK K1
        refine ACode.ret ?_
        exact hk
      · -- no
        try simp only [decide_eq_false_iff_not] at h
        have hxy : x = y := by cases x; cases y; simpa using h
        subst hxy
        refine ACode.skip ?_
        refine ACode.region [0, 1, 5] rfl fun K1 hK => ?_
        simp -implicitDefEqProofs only [go_sem, ↓reduceIte, Nat.reduceEqDiff, Nat.reduceAdd, Nat.reduceSub, Nat.reduceMul, Nat.reduceLeDiff, reduceCtorEq, Bool.false_eq_true, Nat.reduceLT, aAppend]
        rw [wrap_i64 (by omega) (by omega)]
        refine hK _ _ ?_ _ (by simp -implicitDefEqProofs only [go_sem, ↓reduceIte, Nat.reduceEqDiff, Nat.reduceAdd, Nat.reduceSub, Nat.reduceMul, Nat.reduceLeDiff, reduceCtorEq, Bool.false_eq_true, Nat.reduceLT]; rfl); clear hK K1
        refine ⟨_, by omega, k + 1, rfl, by omega, ?_, rfl, by simp <;> rfl⟩
        rw [hs, hd, hd2]; simp
    · -- no
      try simp only [decide_eq_false_iff_not] at h
      refine ACode.exit ?_
      have e : decide (a = b) = true := by rw [decide_eq_true_eq, hs, drop_end a k h, drop_end b k (by omega)]
      rw [e] at hk
      refine ACode.seq ?_
      refine ACode.region [4] rfl fun K1 hK => ?_
      simp -implicitDefEqProofs only [go_sem, ↓reduceIte, Nat.reduceEqDiff, Nat.reduceAdd, Nat.reduceSub, Nat.reduceMul, Nat.reduceLeDiff, reduceCtorEq, Bool.false_eq_true, Nat.reduceLT, aAppend]
      refine hK _ _ ?_ _ (by simp -implicitDefEqProofs only [go_sem, ↓reduceIte, Nat.reduceEqDiff, Nat.reduceAdd, Nat.reduceSub, Nat.reduceMul, Nat.reduceLeDiff, reduceCtorEq, Bool.false_eq_true, Nat.reduceLT]; rfl); clear hK K1
      refine ACode.ret ?_
      exact hk


/-- whetstone/whetstonelaw31.strings -/
theorem c19 (a b : List (List UInt8)) (ha : a.length ≤ 140737488355328) (hb : b.length ≤ 140737488355328) (H : Heap) (K : AV → Heap → Prop) (hk : K (boo (decide (a = b))) H) : ACalls Try.prog 19 [.sl (a.map str), .sl (b.map str)] H K := by
  refine ACalls.of_code Try.func19 rfl (by kernel_rfl) rfl (by simp [Try.ntmps19]) ?_
  rw [Try.ntmps19, Try.results19]; simp -implicitDefEqProofs only [go_sem, ↓reduceIte, Nat.reduceEqDiff, Nat.reduceAdd, Nat.reduceSub, Nat.reduceMul, Nat.reduceLeDiff, reduceCtorEq, Bool.false_eq_true, Nat.reduceLT, aAppend]
  refine ACode.seq ?_
  refine ACode.region [0, 1] rfl fun K1 hK => ?_
  simp -implicitDefEqProofs only [go_sem, ↓reduceIte, Nat.reduceEqDiff, Nat.reduceAdd, Nat.reduceSub, Nat.reduceMul, Nat.reduceLeDiff, reduceCtorEq, Bool.false_eq_true, Nat.reduceLT, aAppend]
  refine hK _ _ ?_ _ (by simp -implicitDefEqProofs only [go_sem, ↓reduceIte, Nat.reduceEqDiff, Nat.reduceAdd, Nat.reduceSub, Nat.reduceMul, Nat.reduceLeDiff, reduceCtorEq, Bool.false_eq_true, Nat.reduceLT]; rfl); clear hK K1
  refine ACode.seq ?_
  refine ACode.seq ?_
  refine ACode.region [0, 1, 10] rfl fun K1 hK => ?_
  simp -implicitDefEqProofs only [go_sem, ↓reduceIte, Nat.reduceEqDiff, Nat.reduceAdd, Nat.reduceSub, Nat.reduceMul, Nat.reduceLeDiff, reduceCtorEq, Bool.false_eq_true, Nat.reduceLT, aAppend]
  refine hK _ _ ?_ _ (by simp -implicitDefEqProofs only [go_sem, ↓reduceIte, Nat.reduceEqDiff, Nat.reduceAdd, Nat.reduceSub, Nat.reduceMul, Nat.reduceLeDiff, reduceCtorEq, Bool.false_eq_true, Nat.reduceLT]; rfl); clear hK K1
  refine ACode.cond rfl (fun h => ?_) (fun h => ?_)
  · -- yes
    try simp only [decide_eq_true_eq] at h
    have e : decide (a = b) = false := by rw [decide_eq_false_iff_not]; intro e; subst e; simp at h
    rw [e] at hk
    refine ACode.seq ?_
    refine ACode.region [4] rfl fun K1 hK => ?_
    simp -implicitDefEqProofs only [go_sem, ↓reduceIte, Nat.reduceEqDiff, Nat.reduceAdd, Nat.reduceSub, Nat.reduceMul, Nat.reduceLeDiff, reduceCtorEq, Bool.false_eq_true, Nat.reduceLT, aAppend]
    refine hK _ _ ?_ _ (by simp -implicitDefEqProofs only [go_sem, ↓reduceIte, Nat.reduceEqDiff, Nat.reduceAdd, Nat.reduceSub, Nat.reduceMul, Nat.reduceLeDiff, reduceCtorEq, Bool.false_eq_true, Nat.reduceLT]; rfl); clear hK K1
    refine ACode.ret ?_
    exact hk
  · -- no
    try simp only [decide_eq_false_iff_not] at h
    have hab : a.length = b.length := by simp at h; omega
    refine ACode.skip ?_
    refine ACode.seq ?_
    refine ACode.seq ?_
    refine ACode.region [0, 1, 12, 13] rfl fun K1 hK => ?_
    simp -implicitDefEqProofs only [go_sem, ↓reduceIte, Nat.reduceEqDiff, Nat.reduceAdd, Nat.reduceSub, Nat.reduceMul, Nat.reduceLeDiff, reduceCtorEq, Bool.false_eq_true, Nat.reduceLT, aAppend]
    refine hK _ _ ?_ _ (by simp -implicitDefEqProofs only [go_sem, ↓reduceIte, Nat.reduceEqDiff, Nat.reduceAdd, Nat.reduceSub, Nat.reduceMul, Nat.reduceLeDiff, reduceCtorEq, Bool.false_eq_true, Nat.reduceLT]; rfl); clear hK K1
    refine ACode.block ?_
    refine ACode.loop (fun m ρ H' => ∃ k : Nat, m = a.length - k ∧ k ≤ a.length ∧ (a = b ↔ a.drop k = b.drop k) ∧ H' = H ∧ ρ = [(0, .sl (a.map str)), (1, .sl (b.map str)), (12, int a.length), (13, int k)]) a.length ⟨0, rfl, Nat.zero_le _, by simp, rfl, rfl⟩ ?_
    rintro m ρ H' ⟨k, rfl, hkl, hs, rfl, rfl⟩
    simp -implicitDefEqProofs only [go_sem, ↓reduceIte, Nat.reduceEqDiff, Nat.reduceAdd, Nat.reduceSub, Nat.reduceMul, Nat.reduceLeDiff, reduceCtorEq, Bool.false_eq_true, Nat.reduceLT, aAppend]
    refine ACode.seq ?_
    refine ACode.region [0, 1, 12, 13, 14] rfl fun K1 hK => ?_
    simp -implicitDefEqProofs only [go_sem, ↓reduceIte, Nat.reduceEqDiff, Nat.reduceAdd, Nat.reduceSub, Nat.reduceMul, Nat.reduceLeDiff, reduceCtorEq, Bool.false_eq_true, Nat.reduceLT, aAppend]
    refine hK _ _ ?_ _ (by simp -implicitDefEqProofs only [go_sem, ↓reduceIte, Nat.reduceEqDiff, Nat.reduceAdd, Nat.reduceSub, Nat.reduceMul, Nat.reduceLeDiff, reduceCtorEq, Bool.false_eq_true, Nat.reduceLT]; rfl); clear hK K1
    refine ACode.seq ?_
    refine ACode.cond rfl (fun h => ?_) (fun h => ?_)
    · -- yes
      try simp only [decide_eq_true_eq] at h
      obtain ⟨x, hx, hd, -, -⟩ := at_drop a k (by omega)
      obtain ⟨y, hy, hd2, -, -⟩ := at_drop b k (by omega)
      refine ACode.skip ?_
      refine ACode.seq ?_
      refine ACode.block ?_
      refine ACode.seq ?_
      refine ACode.region [0, 1, 5, 12, 13] rfl fun K1 hK => ?_
      simp -implicitDefEqProofs only [go_sem, ↓reduceIte, Nat.reduceEqDiff, Nat.reduceAdd, Nat.reduceSub, Nat.reduceMul, Nat.reduceLeDiff, reduceCtorEq, Bool.false_eq_true, Nat.reduceLT, aAppend]
      refine hK _ _ ?_ _ (by simp -implicitDefEqProofs only [go_sem, ↓reduceIte, Nat.reduceEqDiff, Nat.reduceAdd, Nat.reduceSub, Nat.reduceMul, Nat.reduceLeDiff, reduceCtorEq, Bool.false_eq_true, Nat.reduceLT]; rfl); clear hK K1
      refine ACode.seq ?_
      refine ACode.region_draw [0, 1, 12, 13, 24] [(0, 0), (1, 0), (2, 0), (4, 0), (5, 0), (6, 0), (3, 1), (7, 1), (8, 0)] (by kernel_rfl) (by kernel_rfl) rfl (by kernel_rfl) fun K1 hK => ?_
      simp -implicitDefEqProofs only [go_sem, ↓reduceIte, Nat.reduceEqDiff, Nat.reduceAdd, Nat.reduceSub, Nat.reduceMul, Nat.reduceLeDiff, reduceCtorEq, Bool.false_eq_true, Nat.reduceLT, aAppend, hx, hy]
      refine hK _ _ ?_ _ (by simp -implicitDefEqProofs only [go_sem, ↓reduceIte, Nat.reduceEqDiff, Nat.reduceAdd, Nat.reduceSub, Nat.reduceMul, Nat.reduceLeDiff, reduceCtorEq, Bool.false_eq_true, Nat.reduceLT]; rfl); clear hK K1
      refine ACode.cond rfl (fun h => ?_) (fun h => ?_)
      · -- yes
        try simp only [decide_eq_true_eq] at h
        have e : decide (a = b) = false := by
          rw [decide_eq_false_iff_not, hs, hd, hd2]
          intro e
          simp only [List.cons.injEq] at e
          obtain ⟨rfl, -⟩ := e
          simp at h
        rw [e] at hk
        refine ACode.seq ?_
        refine ACode.region [4] rfl fun K1 hK => ?_
        simp -implicitDefEqProofs only [go_sem, ↓reduceIte, Nat.reduceEqDiff, Nat.reduceAdd, Nat.reduceSub, Nat.reduceMul, Nat.reduceLeDiff, reduceCtorEq, Bool.false_eq_true, Nat.reduceLT, aAppend]
        refine hK _ _ ?_ _ (by simp -implicitDefEqProofs only [go_sem, ↓reduceIte, Nat.reduceEqDiff, Nat.reduceAdd, Nat.reduceSub, Nat.reduceMul, Nat.reduceLeDiff, reduceCtorEq, Bool.false_eq_true, Nat.reduceLT]; rfl); clear hK K1
        refine ACode.ret ?_
        exact hk
      · -- no
        try simp only [decide_eq_false_iff_not] at h
        have hxy : x = y := by simpa using h
        subst hxy
        refine ACode.skip ?_
        refine ACode.region [0, 1, 12, 13] rfl fun K1 hK => ?_
        simp -implicitDefEqProofs only [go_sem, ↓reduceIte, Nat.reduceEqDiff, Nat.reduceAdd, Nat.reduceSub, Nat.reduceMul, Nat.reduceLeDiff, reduceCtorEq, Bool.false_eq_true, Nat.reduceLT, aAppend]
        rw [wrap_i64 (by omega) (by omega)]
        refine hK _ _ ?_ _ (by simp -implicitDefEqProofs only [go_sem, ↓reduceIte, Nat.reduceEqDiff, Nat.reduceAdd, Nat.reduceSub, Nat.reduceMul, Nat.reduceLeDiff, reduceCtorEq, Bool.false_eq_true, Nat.reduceLT]; rfl); clear hK K1
        refine ⟨_, by omega, k + 1, rfl, by omega, ?_, rfl, by simp <;> rfl⟩
        rw [hs, hd, hd2]; simp
    · -- no
      try simp only [decide_eq_false_iff_not] at h
      refine ACode.exit ?_
      have e : decide (a = b) = true := by rw [decide_eq_true_eq, hs, drop_end a k h, drop_end b k (by omega)]
      rw [e] at hk
      refine ACode.seq ?_
      refine ACode.region [4] rfl fun K1 hK => ?_
      simp -implicitDefEqProofs only [go_sem, ↓reduceIte, Nat.reduceEqDiff, Nat.reduceAdd, Nat.reduceSub, Nat.reduceMul, Nat.reduceLeDiff, reduceCtorEq, Bool.false_eq_true, Nat.reduceLT, aAppend]
      refine hK _ _ ?_ _ (by simp -implicitDefEqProofs only [go_sem, ↓reduceIte, Nat.reduceEqDiff, Nat.reduceAdd, Nat.reduceSub, Nat.reduceMul, Nat.reduceLeDiff, reduceCtorEq, Bool.false_eq_true, Nat.reduceLT]; rfl); clear hK K1
      refine ACode.ret ?_
      exact hk


end Go.Flow

