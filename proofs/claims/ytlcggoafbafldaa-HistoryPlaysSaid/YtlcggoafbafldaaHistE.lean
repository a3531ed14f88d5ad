/-
  Small functions: a step that fits, a sound list once more, what undoes edits, changes in new memory. No condition.
-/
import Derived.Test.YtlcggoafbafldaaHistD
set_option linter.unusedVariables false
set_option linter.unusedSimpArgs false
set_option maxRecDepth 20000
namespace Go.Flow
open Go Go.Proofs

structure OpV where
  Kind : Int
  N : Int
  Note : List UInt8
  L : List Change

def eOp (o : OpV) : AV := .agg [int o.Kind, int o.N, str o.Note, .sl (o.L.map eChange)]

def fitE (n : Int) : List Edit → Option Int
  | [] => some n
  | x :: r => if 200 < n + x.Text.length then none else fitE (n + x.Text.length) r
def fitC (n : Int) : List Change → Option Int
  | [] => some n
  | c :: r => match fitE n c.Edits with
    | none => none
    | some m => if 20 < c.Edits.length then none else fitC m r
def Fits (o : OpV) : Bool := match fitC o.Note.length o.L with
  | none => false
  | some n => decide (n ≤ 200) && decide (o.L.length ≤ 8)

/-- whetstone/whetstonelaw31.fits -/
theorem c8 (o : OpV) (hn : o.Note.length ≤ 140737488355328) (hl : o.L.length ≤ 140737488355328) (hc : ∀ c ∈ o.L, c.Edits.length ≤ 140737488355328 ∧ ∀ x ∈ c.Edits, x.Text.length ≤ 140737488355328)
    (H : Heap) (K : AV → Heap → Prop) (hk : K (boo (Fits o)) H) : ACalls Try.prog 8 [eOp o] H K := by
  refine ACalls.of_code Try.func8 rfl (by kernel_rfl) rfl (by simp [Try.ntmps8]) ?_
  rw [Try.ntmps8, Try.results8]; simp -implicitDefEqProofs only [go_sem, ↓reduceIte, Nat.reduceEqDiff, Nat.reduceAdd, Nat.reduceSub, Nat.reduceMul, Nat.reduceLeDiff, reduceCtorEq, Bool.false_eq_true, Nat.reduceLT, aAppend]
  refine ACode.seq ?_
  refine ACode.region [1] rfl fun K1 hK => ?_
  simp -implicitDefEqProofs only [go_sem, ↓reduceIte, Nat.reduceEqDiff, Nat.reduceAdd, Nat.reduceSub, Nat.reduceMul, Nat.reduceLeDiff, reduceCtorEq, Bool.false_eq_true, Nat.reduceLT, aAppend, eOp]
  intro b hb
  refine hK _ _ ?_ _ (by simp -implicitDefEqProofs only [go_sem, ↓reduceIte, Nat.reduceEqDiff, Nat.reduceAdd, Nat.reduceSub, Nat.reduceMul, Nat.reduceLeDiff, reduceCtorEq, Bool.false_eq_true, Nat.reduceLT]; rfl); clear hK K1
  refine ACode.freeze b (Heap.upd_same _ _ _) ?_
  simp -implicitDefEqProofs only [go_sem, ↓reduceIte, Nat.reduceEqDiff, Nat.reduceAdd, Nat.reduceSub, Nat.reduceMul, Nat.reduceLeDiff, reduceCtorEq, Bool.false_eq_true, Nat.reduceLT, aAppend, Heap.erase_upd_same _ b _ hb]
  refine ACode.seq ?_
  refine ACode.region [1, 3] rfl fun K1 hK => ?_
  simp -implicitDefEqProofs only [go_sem, ↓reduceIte, Nat.reduceEqDiff, Nat.reduceAdd, Nat.reduceSub, Nat.reduceMul, Nat.reduceLeDiff, reduceCtorEq, Bool.false_eq_true, Nat.reduceLT, aAppend]
  refine hK _ _ ?_ _ (by simp -implicitDefEqProofs only [go_sem, ↓reduceIte, Nat.reduceEqDiff, Nat.reduceAdd, Nat.reduceSub, Nat.reduceMul, Nat.reduceLeDiff, reduceCtorEq, Bool.false_eq_true, Nat.reduceLT]; rfl); clear hK K1
  refine ACode.seq ?_
  refine ACode.seq ?_
  refine ACode.region [1, 3, 12, 13, 14] rfl fun K1 hK => ?_
  simp -implicitDefEqProofs only [go_sem, ↓reduceIte, Nat.reduceEqDiff, Nat.reduceAdd, Nat.reduceSub, Nat.reduceMul, Nat.reduceLeDiff, reduceCtorEq, Bool.false_eq_true, Nat.reduceLT, aAppend]
  refine hK _ _ ?_ _ (by simp -implicitDefEqProofs only [go_sem, ↓reduceIte, Nat.reduceEqDiff, Nat.reduceAdd, Nat.reduceSub, Nat.reduceMul, Nat.reduceLeDiff, reduceCtorEq, Bool.false_eq_true, Nat.reduceLT]; rfl); clear hK K1
  refine ACode.block ?_
  refine ACode.loop (fun m ρ H' => ∃ (k : Nat) (n : Int), m = o.L.length - k ∧ k ≤ o.L.length ∧ 0 ≤ n ∧ n ≤ 140737488355328 ∧ fitC o.Note.length o.L = fitC n (o.L.drop k) ∧ H' = H ∧ ρ = [(1, .ip (eOp o)), (3, int n), (12, .sl (o.L.map eChange)), (13, int o.L.length), (14, int k)]) o.L.length ⟨0, _, rfl, Nat.zero_le _, by omega, by omega, rfl, rfl, rfl⟩ ?_
  rintro m ρ H' ⟨k, n, rfl, hkl, hn0, hn1, hf, rfl, rfl⟩
  simp -implicitDefEqProofs only [go_sem, ↓reduceIte, Nat.reduceEqDiff, Nat.reduceAdd, Nat.reduceSub, Nat.reduceMul, Nat.reduceLeDiff, reduceCtorEq, Bool.false_eq_true, Nat.reduceLT, aAppend]
  refine ACode.seq ?_
  refine ACode.region [1, 3, 12, 13, 14, 15] rfl fun K1 hK => ?_
  simp -implicitDefEqProofs only [go_sem, ↓reduceIte, Nat.reduceEqDiff, Nat.reduceAdd, Nat.reduceSub, Nat.reduceMul, Nat.reduceLeDiff, reduceCtorEq, Bool.false_eq_true, Nat.reduceLT, aAppend]
  refine hK _ _ ?_ _ (by simp -implicitDefEqProofs only [go_sem, ↓reduceIte, Nat.reduceEqDiff, Nat.reduceAdd, Nat.reduceSub, Nat.reduceMul, Nat.reduceLeDiff, reduceCtorEq, Bool.false_eq_true, Nat.reduceLT]; rfl); clear hK K1
  refine ACode.seq ?_
  refine ACode.cond rfl (fun h => ?_) (fun h => ?_)
  · -- yes
    try simp only [decide_eq_true_eq] at h
    obtain ⟨c, hx, hd, hm, -⟩ := at_drop o.L k (by omega)
    obtain ⟨hc1, hc2⟩ := hc c hm
    refine ACode.skip ?_
    refine ACode.seq ?_
    refine ACode.block ?_
    refine ACode.seq ?_
    refine ACode.region [1, 3, 5, 12, 13, 14] rfl fun K1 hK => ?_
    simp -implicitDefEqProofs only [go_sem, ↓reduceIte, Nat.reduceEqDiff, Nat.reduceAdd, Nat.reduceSub, Nat.reduceMul, Nat.reduceLeDiff, reduceCtorEq, Bool.false_eq_true, Nat.reduceLT, aAppend, hx, eChange]
    intro b hb
    refine hK _ _ ?_ _ (by simp -implicitDefEqProofs only [go_sem, ↓reduceIte, Nat.reduceEqDiff, Nat.reduceAdd, Nat.reduceSub, Nat.reduceMul, Nat.reduceLeDiff, reduceCtorEq, Bool.false_eq_true, Nat.reduceLT]; rfl); clear hK K1
    refine ACode.freeze b (Heap.upd_same _ _ _) ?_
    simp -implicitDefEqProofs only [go_sem, ↓reduceIte, Nat.reduceEqDiff, Nat.reduceAdd, Nat.reduceSub, Nat.reduceMul, Nat.reduceLeDiff, reduceCtorEq, Bool.false_eq_true, Nat.reduceLT, aAppend, Heap.erase_upd_same _ b _ hb]
    refine ACode.seq ?_
    refine ACode.seq ?_
    refine ACode.region [1, 3, 5, 12, 13, 14, 19, 20, 21] rfl fun K1 hK => ?_
    simp -implicitDefEqProofs only [go_sem, ↓reduceIte, Nat.reduceEqDiff, Nat.reduceAdd, Nat.reduceSub, Nat.reduceMul, Nat.reduceLeDiff, reduceCtorEq, Bool.false_eq_true, Nat.reduceLT, aAppend]
    refine hK _ _ ?_ _ (by simp -implicitDefEqProofs only [go_sem, ↓reduceIte, Nat.reduceEqDiff, Nat.reduceAdd, Nat.reduceSub, Nat.reduceMul, Nat.reduceLeDiff, reduceCtorEq, Bool.false_eq_true, Nat.reduceLT]; rfl); clear hK K1
    refine ACode.block ?_
    refine ACode.loop (fun m ρ H1 => ∃ (q : Nat) (n1 : Int), m = c.Edits.length - q ∧ q ≤ c.Edits.length ∧ 0 ≤ n1 ∧ n1 ≤ 140737488355328 ∧ fitE n c.Edits = fitE n1 (c.Edits.drop q) ∧ H1 = H' ∧ ρ = [(1, .ip (eOp o)), (3, int n1), (5, .ip (eChange c)), (12, .sl (o.L.map eChange)), (13, int o.L.length), (14, int k), (19, .sl (c.Edits.map eEdit)), (20, int c.Edits.length), (21, int q)]) c.Edits.length ⟨0, _, rfl, Nat.zero_le _, hn0, hn1, rfl, rfl, rfl⟩ ?_
    rintro m ρ H1 ⟨q, n1, rfl, hql, hq0, hq1, hg, rfl, rfl⟩
    simp -implicitDefEqProofs only [go_sem, ↓reduceIte, Nat.reduceEqDiff, Nat.reduceAdd, Nat.reduceSub, Nat.reduceMul, Nat.reduceLeDiff, reduceCtorEq, Bool.false_eq_true, Nat.reduceLT, aAppend]
    refine ACode.seq ?_
    refine ACode.region [1, 3, 5, 12, 13, 14, 19, 20, 21, 22] rfl fun K1 hK => ?_
    simp -implicitDefEqProofs only [go_sem, ↓reduceIte, Nat.reduceEqDiff, Nat.reduceAdd, Nat.reduceSub, Nat.reduceMul, Nat.reduceLeDiff, reduceCtorEq, Bool.false_eq_true, Nat.reduceLT, aAppend]
    refine hK _ _ ?_ _ (by simp -implicitDefEqProofs only [go_sem, ↓reduceIte, Nat.reduceEqDiff, Nat.reduceAdd, Nat.reduceSub, Nat.reduceMul, Nat.reduceLeDiff, reduceCtorEq, Bool.false_eq_true, Nat.reduceLT]; rfl); clear hK K1
    refine ACode.seq ?_
    refine ACode.cond rfl (fun h => ?_) (fun h => ?_)
    · -- yes
      try simp only [decide_eq_true_eq] at h
      obtain ⟨x, hx2, hd2, hm2, -⟩ := at_drop c.Edits q (by omega)
      have hb2 := hc2 x hm2
      refine ACode.skip ?_
      refine ACode.seq ?_
      refine ACode.block ?_
      refine ACode.seq ?_
      refine ACode.region [1, 3, 5, 7, 12, 13, 14, 19, 20, 21] rfl fun K1 hK => ?_
      simp -implicitDefEqProofs only [go_sem, ↓reduceIte, Nat.reduceEqDiff, Nat.reduceAdd, Nat.reduceSub, Nat.reduceMul, Nat.reduceLeDiff, reduceCtorEq, Bool.false_eq_true, Nat.reduceLT, aAppend, hx2, eEdit]
      intro b hb
      refine hK _ _ ?_ _ (by simp -implicitDefEqProofs only [go_sem, ↓reduceIte, Nat.reduceEqDiff, Nat.reduceAdd, Nat.reduceSub, Nat.reduceMul, Nat.reduceLeDiff, reduceCtorEq, Bool.false_eq_true, Nat.reduceLT]; rfl); clear hK K1
      refine ACode.freeze b (Heap.upd_same _ _ _) ?_
      simp -implicitDefEqProofs only [go_sem, ↓reduceIte, Nat.reduceEqDiff, Nat.reduceAdd, Nat.reduceSub, Nat.reduceMul, Nat.reduceLeDiff, reduceCtorEq, Bool.false_eq_true, Nat.reduceLT, aAppend, Heap.erase_upd_same _ b _ hb]
      refine ACode.seq ?_
      refine ACode.region [1, 3, 5, 12, 13, 14, 19, 20, 21] rfl fun K1 hK => ?_
      simp -implicitDefEqProofs only [go_sem, ↓reduceIte, Nat.reduceEqDiff, Nat.reduceAdd, Nat.reduceSub, Nat.reduceMul, Nat.reduceLeDiff, reduceCtorEq, Bool.false_eq_true, Nat.reduceLT, aAppend]
      rw [wrap_i64 (by omega) (by omega)]
      refine hK _ _ ?_ _ (by simp -implicitDefEqProofs only [go_sem, ↓reduceIte, Nat.reduceEqDiff, Nat.reduceAdd, Nat.reduceSub, Nat.reduceMul, Nat.reduceLeDiff, reduceCtorEq, Bool.false_eq_true, Nat.reduceLT]; rfl); clear hK K1
      refine ACode.seq ?_
      refine ACode.region [1, 3, 5, 12, 13, 14, 19, 20, 21, 31] rfl fun K1 hK => ?_
      simp -implicitDefEqProofs only [go_sem, ↓reduceIte, Nat.reduceEqDiff, Nat.reduceAdd, Nat.reduceSub, Nat.reduceMul, Nat.reduceLeDiff, reduceCtorEq, Bool.false_eq_true, Nat.reduceLT, aAppend]
      refine hK _ _ ?_ _ (by simp -implicitDefEqProofs only [go_sem, ↓reduceIte, Nat.reduceEqDiff, Nat.reduceAdd, Nat.reduceSub, Nat.reduceMul, Nat.reduceLeDiff, reduceCtorEq, Bool.false_eq_true, Nat.reduceLT]; rfl); clear hK K1
      refine ACode.cond rfl (fun h => ?_) (fun h => ?_)
      · -- yes
        try simp only [decide_eq_true_eq] at h
        rw [Fits, hf, hd, fitC, hg, hd2, fitE, if_pos h] at hk
        refine ACode.seq ?_
        refine ACode.region [2] rfl fun K1 hK => ?_
        simp -implicitDefEqProofs only [go_sem, ↓reduceIte, Nat.reduceEqDiff, Nat.reduceAdd, Nat.reduceSub, Nat.reduceMul, Nat.reduceLeDiff, reduceCtorEq, Bool.false_eq_true, Nat.reduceLT, aAppend]
        refine hK _ _ ?_ _ (by simp -implicitDefEqProofs only [go_sem, ↓reduceIte, Nat.reduceEqDiff, Nat.reduceAdd, Nat.reduceSub, Nat.reduceMul, Nat.reduceLeDiff, reduceCtorEq, Bool.false_eq_true, Nat.reduceLT]; rfl); clear hK K1
        refine ACode.ret ?_
        exact hk
      · -- no
        try simp only [decide_eq_false_iff_not] at h
        refine ACode.skip ?_
        refine ACode.region [1, 3, 5, 12, 13, 14, 19, 20, 21] rfl fun K1 hK => ?_
        simp -implicitDefEqProofs only [go_sem, ↓reduceIte, Nat.reduceEqDiff, Nat.reduceAdd, Nat.reduceSub, Nat.reduceMul, Nat.reduceLeDiff, reduceCtorEq, Bool.false_eq_true, Nat.reduceLT, aAppend]
        rw [wrap_i64 (by omega) (by omega)]
        refine hK _ _ ?_ _ (by simp -implicitDefEqProofs only [go_sem, ↓reduceIte, Nat.reduceEqDiff, Nat.reduceAdd, Nat.reduceSub, Nat.reduceMul, Nat.reduceLeDiff, reduceCtorEq, Bool.false_eq_true, Nat.reduceLT]; rfl); clear hK K1
        refine ⟨_, by omega, q + 1, _, rfl, by omega, ?_, ?_, ?_, rfl, by simp <;> rfl⟩
        · omega
        · omega
        · rw [hg, hd2, fitE, if_neg h]
    · -- no
      try simp only [decide_eq_false_iff_not] at h
      refine ACode.exit ?_
      rw [drop_end _ _ h, fitE] at hg
      refine ACode.seq ?_
      refine ACode.region [1, 3, 12, 13, 14, 36] rfl fun K1 hK => ?_
      simp -implicitDefEqProofs only [go_sem, ↓reduceIte, Nat.reduceEqDiff, Nat.reduceAdd, Nat.reduceSub, Nat.reduceMul, Nat.reduceLeDiff, reduceCtorEq, Bool.false_eq_true, Nat.reduceLT, aAppend, eChange]
      refine hK _ _ ?_ _ (by simp -implicitDefEqProofs only [go_sem, ↓reduceIte, Nat.reduceEqDiff, Nat.reduceAdd, Nat.reduceSub, Nat.reduceMul, Nat.reduceLeDiff, reduceCtorEq, Bool.false_eq_true, Nat.reduceLT]; rfl); clear hK K1
      refine ACode.cond rfl (fun h => ?_) (fun h => ?_)
      · -- yes
        try simp only [decide_eq_true_eq] at h
        rw [Fits, hf, hd, fitC, hg] at hk
        simp only [] at hk
        rw [if_pos (by omega)] at hk
        refine ACode.seq ?_
        refine ACode.region [2] rfl fun K1 hK => ?_
        simp -implicitDefEqProofs only [go_sem, ↓reduceIte, Nat.reduceEqDiff, Nat.reduceAdd, Nat.reduceSub, Nat.reduceMul, Nat.reduceLeDiff, reduceCtorEq, Bool.false_eq_true, Nat.reduceLT, aAppend]
        refine hK _ _ ?_ _ (by simp -implicitDefEqProofs only [go_sem, ↓reduceIte, Nat.reduceEqDiff, Nat.reduceAdd, Nat.reduceSub, Nat.reduceMul, Nat.reduceLeDiff, reduceCtorEq, Bool.false_eq_true, Nat.reduceLT]; rfl); clear hK K1
        refine ACode.ret ?_
        exact hk
      · -- no
        try simp only [decide_eq_false_iff_not] at h
        refine ACode.skip ?_
        refine ACode.region [1, 3, 12, 13, 14] rfl fun K1 hK => ?_
        simp -implicitDefEqProofs only [go_sem, ↓reduceIte, Nat.reduceEqDiff, Nat.reduceAdd, Nat.reduceSub, Nat.reduceMul, Nat.reduceLeDiff, reduceCtorEq, Bool.false_eq_true, Nat.reduceLT, aAppend]
        rw [wrap_i64 (by omega) (by omega)]
        refine hK _ _ ?_ _ (by simp -implicitDefEqProofs only [go_sem, ↓reduceIte, Nat.reduceEqDiff, Nat.reduceAdd, Nat.reduceSub, Nat.reduceMul, Nat.reduceLeDiff, reduceCtorEq, Bool.false_eq_true, Nat.reduceLT]; rfl); clear hK K1
        refine ⟨_, by omega, k + 1, _, rfl, by omega, hq0, hq1, ?_, rfl, by simp <;> rfl⟩
        rw [hf, hd, fitC, hg]
        simp only []
        rw [if_neg (by omega)]
  · -- no
    try simp only [decide_eq_false_iff_not] at h
    refine ACode.exit ?_
    rw [Fits, hf, drop_end _ _ h, fitC] at hk
    simp only [] at hk
    refine ACode.seq ?_
    refine ACode.region [2] rfl fun K1 hK => ?_
    by_cases h1 : n ≤ 200
    · have e1 : decide (n ≤ 200) = true := decide_eq_true h1
      rw [e1, Bool.true_and] at hk
      simp -implicitDefEqProofs only [go_sem, ↓reduceIte, Nat.reduceEqDiff, Nat.reduceAdd, Nat.reduceSub, Nat.reduceMul, Nat.reduceLeDiff, reduceCtorEq, Bool.false_eq_true, Nat.reduceLT, aAppend, e1, eOp]
      refine hK _ _ ?_ _ (by simp -implicitDefEqProofs only [go_sem, ↓reduceIte, Nat.reduceEqDiff, Nat.reduceAdd, Nat.reduceSub, Nat.reduceMul, Nat.reduceLeDiff, reduceCtorEq, Bool.false_eq_true, Nat.reduceLT]; rfl); clear hK K1
      refine ACode.ret ?_
      have e : decide ((o.L.length : Int) ≤ 8) = decide (o.L.length ≤ 8) := by congr 1; apply propext; omega
      rw [e]
      exact hk
    have e1 : decide (n ≤ 200) = false := decide_eq_false h1
    rw [e1, Bool.false_and] at hk
    simp -implicitDefEqProofs only [go_sem, ↓reduceIte, Nat.reduceEqDiff, Nat.reduceAdd, Nat.reduceSub, Nat.reduceMul, Nat.reduceLeDiff, reduceCtorEq, Bool.false_eq_true, Nat.reduceLT, aAppend, e1, eOp]
    refine hK _ _ ?_ _ (by simp -implicitDefEqProofs only [go_sem, ↓reduceIte, Nat.reduceEqDiff, Nat.reduceAdd, Nat.reduceSub, Nat.reduceMul, Nat.reduceLeDiff, reduceCtorEq, Bool.false_eq_true, Nat.reduceLT]; rfl); clear hK K1
    refine ACode.ret ?_
    exact hk


/-- whetstone/whetstoneref02.Sound -/
theorem c46 (l : List Edit) (n : Int) (hl : l.length ≤ 140737488355328) (H : Heap) (K : AV → Heap → Prop) (hk : K (int (Sound l n)) H) : ACalls Try.prog 46 [.sl (l.map eEdit), int n] H K := by
  refine ACalls.of_code Try.func46 rfl (by kernel_rfl) rfl (by simp [Try.ntmps46]) ?_
  rw [Try.ntmps46, Try.results46]; simp -implicitDefEqProofs only [go_sem, ↓reduceIte, Nat.reduceEqDiff, Nat.reduceAdd, Nat.reduceSub, Nat.reduceMul, Nat.reduceLeDiff, reduceCtorEq, Bool.false_eq_true, Nat.reduceLT, aAppend]
  refine ACode.seq ?_
  refine ACode.region [0, 1] rfl fun K1 hK => ?_
  simp -implicitDefEqProofs only [go_sem, ↓reduceIte, Nat.reduceEqDiff, Nat.reduceAdd, Nat.reduceSub, Nat.reduceMul, Nat.reduceLeDiff, reduceCtorEq, Bool.false_eq_true, Nat.reduceLT, aAppend]
  refine hK _ _ ?_ _ (by simp -implicitDefEqProofs only [go_sem, ↓reduceIte, Nat.reduceEqDiff, Nat.reduceAdd, Nat.reduceSub, Nat.reduceMul, Nat.reduceLeDiff, reduceCtorEq, Bool.false_eq_true, Nat.reduceLT]; rfl); clear hK K1
  refine ACode.seq ?_
  refine ACode.seq ?_
  refine ACode.region [0, 1, 9] rfl fun K1 hK => ?_
  simp -implicitDefEqProofs only [go_sem, ↓reduceIte, Nat.reduceEqDiff, Nat.reduceAdd, Nat.reduceSub, Nat.reduceMul, Nat.reduceLeDiff, reduceCtorEq, Bool.false_eq_true, Nat.reduceLT, aAppend]
  refine hK _ _ ?_ _ (by simp -implicitDefEqProofs only [go_sem, ↓reduceIte, Nat.reduceEqDiff, Nat.reduceAdd, Nat.reduceSub, Nat.reduceMul, Nat.reduceLeDiff, reduceCtorEq, Bool.false_eq_true, Nat.reduceLT]; rfl); clear hK K1
  refine ACode.cond rfl (fun h => ?_) (fun h => ?_)
  · -- yes
    try simp only [decide_eq_true_eq] at h
    rw [Sound, if_pos (by omega)] at hk
    refine ACode.seq ?_
    refine ACode.region [4] rfl fun K1 hK => ?_
    simp -implicitDefEqProofs only [go_sem, ↓reduceIte, Nat.reduceEqDiff, Nat.reduceAdd, Nat.reduceSub, Nat.reduceMul, Nat.reduceLeDiff, reduceCtorEq, Bool.false_eq_true, Nat.reduceLT, aAppend]
    refine hK _ _ ?_ _ (by simp -implicitDefEqProofs only [go_sem, ↓reduceIte, Nat.reduceEqDiff, Nat.reduceAdd, Nat.reduceSub, Nat.reduceMul, Nat.reduceLeDiff, reduceCtorEq, Bool.false_eq_true, Nat.reduceLT]; rfl); clear hK K1
    refine ACode.ret ?_
    exact hk
  · -- no
    try simp only [decide_eq_false_iff_not] at h
    rw [Sound, if_neg (by omega)] at hk
    refine ACode.skip ?_
    refine ACode.seq ?_
    refine ACode.seq ?_
    refine ACode.region [0, 1, 5] rfl fun K1 hK => ?_
    simp -implicitDefEqProofs only [go_sem, ↓reduceIte, Nat.reduceEqDiff, Nat.reduceAdd, Nat.reduceSub, Nat.reduceMul, Nat.reduceLeDiff, reduceCtorEq, Bool.false_eq_true, Nat.reduceLT, aAppend]
    refine hK _ _ ?_ _ (by simp -implicitDefEqProofs only [go_sem, ↓reduceIte, Nat.reduceEqDiff, Nat.reduceAdd, Nat.reduceSub, Nat.reduceMul, Nat.reduceLeDiff, reduceCtorEq, Bool.false_eq_true, Nat.reduceLT]; rfl); clear hK K1
    refine ACode.block ?_
    refine ACode.loop (fun m ρ H' => ∃ (k : Nat) (last : Int), m = l.length - k ∧ k ≤ l.length ∧ (k = 0 → last = -1) ∧ (∀ y, 0 < k → l[k - 1]? = some y → last = y.To) ∧ soundFrom n (-1) l = soundFrom n last (l.drop k) ∧ H' = H ∧ ρ = [(0, .sl (l.map eEdit)), (1, int n), (5, int k)]) l.length ⟨0, -1, rfl, Nat.zero_le _, fun _ => rfl, fun _ h => absurd h (by omega), rfl, rfl, rfl⟩ ?_
    rintro m ρ H' ⟨k, last, rfl, hkl, hl0, hl1, hs, rfl, rfl⟩
    simp -implicitDefEqProofs only [go_sem, ↓reduceIte, Nat.reduceEqDiff, Nat.reduceAdd, Nat.reduceSub, Nat.reduceMul, Nat.reduceLeDiff, reduceCtorEq, Bool.false_eq_true, Nat.reduceLT, aAppend]
    refine ACode.seq ?_
    refine ACode.seq ?_
    refine ACode.region [0, 1, 5, 13] rfl fun K1 hK => ?_
    simp -implicitDefEqProofs only [go_sem, ↓reduceIte, Nat.reduceEqDiff, Nat.reduceAdd, Nat.reduceSub, Nat.reduceMul, Nat.reduceLeDiff, reduceCtorEq, Bool.false_eq_true, Nat.reduceLT, aAppend]
    refine hK _ _ ?_ _ (by simp -implicitDefEqProofs only [go_sem, ↓reduceIte, Nat.reduceEqDiff, Nat.reduceAdd, Nat.reduceSub, Nat.reduceMul, Nat.reduceLeDiff, reduceCtorEq, Bool.false_eq_true, Nat.reduceLT]; rfl); clear hK K1
    refine ACode.cond rfl (fun h => ?_) (fun h => ?_)
    · -- yes
      try simp only [decide_eq_true_eq] at h
      obtain ⟨x, hx, hd, hm, ht⟩ := at_drop l k (by omega)
      refine ACode.skip ?_
      refine ACode.seq ?_
      refine ACode.block ?_
      refine ACode.seq ?_
      refine ACode.region [0, 1, 5, 6] rfl fun K1 hK => ?_
      simp -implicitDefEqProofs only [go_sem, ↓reduceIte, Nat.reduceEqDiff, Nat.reduceAdd, Nat.reduceSub, Nat.reduceMul, Nat.reduceLeDiff, reduceCtorEq, Bool.false_eq_true, Nat.reduceLT, aAppend, hx, eEdit]
      intro b hb
      refine hK _ _ ?_ _ (by simp -implicitDefEqProofs only [go_sem, ↓reduceIte, Nat.reduceEqDiff, Nat.reduceAdd, Nat.reduceSub, Nat.reduceMul, Nat.reduceLeDiff, reduceCtorEq, Bool.false_eq_true, Nat.reduceLT]; rfl); clear hK K1
      refine ACode.freeze b (Heap.upd_same _ _ _) ?_
      simp -implicitDefEqProofs only [go_sem, ↓reduceIte, Nat.reduceEqDiff, Nat.reduceAdd, Nat.reduceSub, Nat.reduceMul, Nat.reduceLeDiff, reduceCtorEq, Bool.false_eq_true, Nat.reduceLT, aAppend, Heap.erase_upd_same _ b _ hb]
      refine ACode.seq ?_
      refine ACode.seq ?_
      refine ACode.region_cut [0, 1, 5, 6, 35] (fun ρ' H1 => ∃ t : Bool, (t = true ↔ (x.From < 0 ∨ x.To < x.From ∨ n < x.To)) ∧ H1 = H' ∧ ρ' = [(0, .sl (l.map eEdit)), (1, int n), (5, int k), (6, .ip (eEdit x)), (35, boo t)]) rfl (fun K1 hK => ?_) ?_
      · by_cases h1 : x.From < 0
        · simp -implicitDefEqProofs only [go_sem, ↓reduceIte, Nat.reduceEqDiff, Nat.reduceAdd, Nat.reduceSub, Nat.reduceMul, Nat.reduceLeDiff, reduceCtorEq, Bool.false_eq_true, Nat.reduceLT, aAppend, h1]
          refine hK _ _ ⟨true, ?_, rfl, rfl⟩ _ (by simp -implicitDefEqProofs only [go_sem, ↓reduceIte, Nat.reduceEqDiff, Nat.reduceAdd, Nat.reduceSub, Nat.reduceMul, Nat.reduceLeDiff, reduceCtorEq, Bool.false_eq_true, Nat.reduceLT, aAppend] <;> rfl); simp [h1]
        · by_cases h2 : x.To < x.From
          · simp -implicitDefEqProofs only [go_sem, ↓reduceIte, Nat.reduceEqDiff, Nat.reduceAdd, Nat.reduceSub, Nat.reduceMul, Nat.reduceLeDiff, reduceCtorEq, Bool.false_eq_true, Nat.reduceLT, aAppend, h1, h2]
            refine hK _ _ ⟨true, ?_, rfl, rfl⟩ _ (by simp -implicitDefEqProofs only [go_sem, ↓reduceIte, Nat.reduceEqDiff, Nat.reduceAdd, Nat.reduceSub, Nat.reduceMul, Nat.reduceLeDiff, reduceCtorEq, Bool.false_eq_true, Nat.reduceLT, aAppend] <;> rfl); simp [h2]
          · simp -implicitDefEqProofs only [go_sem, ↓reduceIte, Nat.reduceEqDiff, Nat.reduceAdd, Nat.reduceSub, Nat.reduceMul, Nat.reduceLeDiff, reduceCtorEq, Bool.false_eq_true, Nat.reduceLT, aAppend, h1, h2]
            refine hK _ _ ⟨decide (n < x.To), ?_, rfl, rfl⟩ _ (by simp -implicitDefEqProofs only [go_sem, ↓reduceIte, Nat.reduceEqDiff, Nat.reduceAdd, Nat.reduceSub, Nat.reduceMul, Nat.reduceLeDiff, reduceCtorEq, Bool.false_eq_true, Nat.reduceLT, aAppend] <;> rfl); simp [h1, h2]
      rintro ρ' H1 ⟨t, ht1, rfl, rfl⟩
      refine ACode.cond rfl (fun h => ?_) (fun h => ?_)
      · -- yes
        try simp only [decide_eq_true_eq] at h
        subst h
        rw [hs, hd, soundFrom, if_pos (ht1.1 rfl)] at hk
        refine ACode.seq ?_
        refine ACode.region [4] rfl fun K1 hK => ?_
        simp -implicitDefEqProofs only [go_sem, ↓reduceIte, Nat.reduceEqDiff, Nat.reduceAdd, Nat.reduceSub, Nat.reduceMul, Nat.reduceLeDiff, reduceCtorEq, Bool.false_eq_true, Nat.reduceLT, aAppend]
        refine hK _ _ ?_ _ (by simp -implicitDefEqProofs only [go_sem, ↓reduceIte, Nat.reduceEqDiff, Nat.reduceAdd, Nat.reduceSub, Nat.reduceMul, Nat.reduceLeDiff, reduceCtorEq, Bool.false_eq_true, Nat.reduceLT]; rfl); clear hK K1
        refine ACode.ret ?_
        exact hk
      · -- no
        try simp only [decide_eq_false_iff_not] at h
        subst h
        have hc : ¬ (x.From < 0 ∨ x.To < x.From ∨ n < x.To) := fun h => by simpa using ht1.2 h
        refine ACode.skip ?_
        refine ACode.seq ?_
        refine ACode.seq ?_
        refine ACode.region_cut [0, 1, 5, 6, 46] (fun ρ' H2 => ∃ t : Bool, (t = true ↔ (x.From = x.To ∧ x.Text = [])) ∧ H2 = H1 ∧ ρ' = [(0, .sl (l.map eEdit)), (1, int n), (5, int k), (6, .ip (eEdit x)), (46, boo t)]) rfl (fun K1 hK => ?_) ?_
        · by_cases h1 : x.From = x.To
          · have hd1 : decide (x.From = x.To) = true := decide_eq_true h1
            simp -implicitDefEqProofs only [go_sem, ↓reduceIte, Nat.reduceEqDiff, Nat.reduceAdd, Nat.reduceSub, Nat.reduceMul, Nat.reduceLeDiff, reduceCtorEq, Bool.false_eq_true, Nat.reduceLT, aAppend, hd1, eEdit]
            refine hK _ _ ⟨decide ((x.Text.length : Int) = 0), ?_, rfl, rfl⟩ _ (by simp -implicitDefEqProofs only [go_sem, ↓reduceIte, Nat.reduceEqDiff, Nat.reduceAdd, Nat.reduceSub, Nat.reduceMul, Nat.reduceLeDiff, reduceCtorEq, Bool.false_eq_true, Nat.reduceLT, aAppend] <;> rfl); simp [h1]
          · have hd1 : decide (x.From = x.To) = false := decide_eq_false h1
            simp -implicitDefEqProofs only [go_sem, ↓reduceIte, Nat.reduceEqDiff, Nat.reduceAdd, Nat.reduceSub, Nat.reduceMul, Nat.reduceLeDiff, reduceCtorEq, Bool.false_eq_true, Nat.reduceLT, aAppend, hd1, eEdit]
            refine hK _ _ ⟨false, ?_, rfl, rfl⟩ _ (by simp -implicitDefEqProofs only [go_sem, ↓reduceIte, Nat.reduceEqDiff, Nat.reduceAdd, Nat.reduceSub, Nat.reduceMul, Nat.reduceLeDiff, reduceCtorEq, Bool.false_eq_true, Nat.reduceLT, aAppend] <;> rfl); simp [h1]
        rintro ρ' H2 ⟨t, ht2, rfl, rfl⟩
        refine ACode.cond rfl (fun h => ?_) (fun h => ?_)
        · -- yes
          try simp only [decide_eq_true_eq] at h
          subst h
          rw [hs, hd, soundFrom, if_neg hc, if_pos (ht2.1 rfl)] at hk
          refine ACode.seq ?_
          refine ACode.region [4] rfl fun K1 hK => ?_
          simp -implicitDefEqProofs only [go_sem, ↓reduceIte, Nat.reduceEqDiff, Nat.reduceAdd, Nat.reduceSub, Nat.reduceMul, Nat.reduceLeDiff, reduceCtorEq, Bool.false_eq_true, Nat.reduceLT, aAppend]
          refine hK _ _ ?_ _ (by simp -implicitDefEqProofs only [go_sem, ↓reduceIte, Nat.reduceEqDiff, Nat.reduceAdd, Nat.reduceSub, Nat.reduceMul, Nat.reduceLeDiff, reduceCtorEq, Bool.false_eq_true, Nat.reduceLT]; rfl); clear hK K1
          refine ACode.ret ?_
          exact hk
        · -- no
          try simp only [decide_eq_false_iff_not] at h
          subst h
          have hc2 : ¬ (x.From = x.To ∧ x.Text = []) := fun h => by simpa using ht2.2 h
          refine ACode.skip ?_
          refine ACode.seq ?_
          refine ACode.draw_cut [0, 1, 5, 59] [(0, 0), (1, 0), (2, 0), (3, 0), (4, 0), (5, 0), (6, 0), (7, 0), (9, 0), (8, 1), (10, 1), (11, 0), (12, 0)] (fun ρ' H3 => ∃ t : Bool, (t = true ↔ x.From ≤ last) ∧ H3 = H2 ∧ ρ' = [(0, .sl (l.map eEdit)), (1, int n), (5, int k), (59, boo t)]) (by kernel_rfl) (by kernel_rfl) rfl (by kernel_rfl) (fun K1 hK => ?_) ?_
          · by_cases h1 : (0 : Int) < k
            · have hd1 : decide ((0 : Int) < k) = true := decide_eq_true h1
              obtain ⟨y, hy, -, -, -⟩ := at_drop l (k - 1) (by omega)
              have e1 : (k : Int) - 1 = ((k - 1 : Nat) : Int) := by omega
              simp -implicitDefEqProofs only [go_sem, ↓reduceIte, Nat.reduceEqDiff, Nat.reduceAdd, Nat.reduceSub, Nat.reduceMul, Nat.reduceLeDiff, reduceCtorEq, Bool.false_eq_true, Nat.reduceLT, aAppend, hd1, eEdit]
              rw [wrap_i64 (by omega) (by omega), e1]
              simp -implicitDefEqProofs only [go_sem, ↓reduceIte, Nat.reduceEqDiff, Nat.reduceAdd, Nat.reduceSub, Nat.reduceMul, Nat.reduceLeDiff, reduceCtorEq, Bool.false_eq_true, Nat.reduceLT, aAppend, hy, eEdit]
              refine hK _ _ ⟨decide (x.From ≤ y.To), ?_, rfl, rfl⟩ _ (by simp -implicitDefEqProofs only [go_sem, ↓reduceIte, Nat.reduceEqDiff, Nat.reduceAdd, Nat.reduceSub, Nat.reduceMul, Nat.reduceLeDiff, reduceCtorEq, Bool.false_eq_true, Nat.reduceLT, aAppend] <;> rfl)
              rw [hl1 y (by omega) hy]; simp
            · have hd1 : decide ((0 : Int) < k) = false := decide_eq_false h1
              simp -implicitDefEqProofs only [go_sem, ↓reduceIte, Nat.reduceEqDiff, Nat.reduceAdd, Nat.reduceSub, Nat.reduceMul, Nat.reduceLeDiff, reduceCtorEq, Bool.false_eq_true, Nat.reduceLT, aAppend, hd1, eEdit]
              refine hK _ _ ⟨false, ?_, rfl, rfl⟩ _ (by simp -implicitDefEqProofs only [go_sem, ↓reduceIte, Nat.reduceEqDiff, Nat.reduceAdd, Nat.reduceSub, Nat.reduceMul, Nat.reduceLeDiff, reduceCtorEq, Bool.false_eq_true, Nat.reduceLT, aAppend] <;> rfl)
              have := hl0 (by omega)
              simp only [Bool.false_eq_true, false_iff]
              omega
          rintro ρ' H3 ⟨t, ht3, rfl, rfl⟩
          refine ACode.cond rfl (fun h => ?_) (fun h => ?_)
          · -- yes
            try simp only [decide_eq_true_eq] at h
            subst h
            rw [hs, hd, soundFrom, if_neg hc, if_neg hc2, if_pos (ht3.1 rfl)] at hk
            refine ACode.seq ?_
            refine ACode.region [4] rfl fun K1 hK => ?_
            simp -implicitDefEqProofs only [go_sem, ↓reduceIte, Nat.reduceEqDiff, Nat.reduceAdd, Nat.reduceSub, Nat.reduceMul, Nat.reduceLeDiff, reduceCtorEq, Bool.false_eq_true, Nat.reduceLT, aAppend]
            refine hK _ _ ?_ _ (by simp -implicitDefEqProofs only [go_sem, ↓reduceIte, Nat.reduceEqDiff, Nat.reduceAdd, Nat.reduceSub, Nat.reduceMul, Nat.reduceLeDiff, reduceCtorEq, Bool.false_eq_true, Nat.reduceLT]; rfl); clear hK K1
            refine ACode.ret ?_
            exact hk
          · -- no
            try simp only [decide_eq_false_iff_not] at h
            subst h
            have hc3 : ¬ (x.From ≤ last) := fun h => by simpa using ht3.2 h
            refine ACode.skip ?_
            refine ACode.region [0, 1, 5] rfl fun K1 hK => ?_
            simp -implicitDefEqProofs only [go_sem, ↓reduceIte, Nat.reduceEqDiff, Nat.reduceAdd, Nat.reduceSub, Nat.reduceMul, Nat.reduceLeDiff, reduceCtorEq, Bool.false_eq_true, Nat.reduceLT, aAppend]
            rw [wrap_i64 (by omega) (by omega)]
            refine hK _ _ ?_ _ (by simp -implicitDefEqProofs only [go_sem, ↓reduceIte, Nat.reduceEqDiff, Nat.reduceAdd, Nat.reduceSub, Nat.reduceMul, Nat.reduceLeDiff, reduceCtorEq, Bool.false_eq_true, Nat.reduceLT]; rfl); clear hK K1
            refine ⟨_, by omega, k + 1, x.To, rfl, by omega, fun h => absurd h (by omega), fun y _ hy => ?_, ?_, rfl, by simp <;> rfl⟩
            · rw [Nat.add_sub_cancel, hx] at hy; cases hy; rfl
            · rw [hs, hd, soundFrom, if_neg hc, if_neg hc2, if_neg hc3]
    · -- no
      try simp only [decide_eq_false_iff_not] at h
      refine ACode.exit ?_
      rw [hs, drop_end l k h, soundFrom] at hk
      refine ACode.seq ?_
      refine ACode.region [4] rfl fun K1 hK => ?_
      simp -implicitDefEqProofs only [go_sem, ↓reduceIte, Nat.reduceEqDiff, Nat.reduceAdd, Nat.reduceSub, Nat.reduceMul, Nat.reduceLeDiff, reduceCtorEq, Bool.false_eq_true, Nat.reduceLT, aAppend]
      refine hK _ _ ?_ _ (by simp -implicitDefEqProofs only [go_sem, ↓reduceIte, Nat.reduceEqDiff, Nat.reduceAdd, Nat.reduceSub, Nat.reduceMul, Nat.reduceLeDiff, reduceCtorEq, Bool.false_eq_true, Nat.reduceLT]; rfl); clear hK K1
      refine ACode.ret ?_
      exact hk


end Go.Flow

