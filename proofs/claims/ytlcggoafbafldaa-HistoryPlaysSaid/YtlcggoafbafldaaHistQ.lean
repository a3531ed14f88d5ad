/-
  The program's history: a step is taken off the front. No condition.
-/
import Derived.Test.YtlcggoafbafldaaHistM
set_option linter.unusedVariables false
set_option linter.unusedSimpArgs false
set_option maxRecDepth 20000
namespace Go.Flow
open Go Go.Proofs

theorem softs_append : ∀ a b : List AV, AV.softs (a ++ b) = AV.softs a ++ AV.softs b
  | [], b => rfl
  | x :: r, b => by simp only [List.cons_append, AV.softs, softs_append r b]
theorem softs_map {α : Type} (e : α → AV) (h : ∀ x, (e x).soft = e x) : ∀ l : List α, AV.softs (l.map e) = l.map e
  | [] => rfl
  | x :: r => by simp only [List.map_cons, AV.softs, h x, softs_map e h r]
theorem eStep_soft (x : Step) : (eStep x).soft = eStep x := rfl

/-- one place taken off, the rest put forward, the last place cleared -/
def shifted (row l : List Step) (i : Nat) : List Step := row.take i ++ (l ++ (⟨[], [], []⟩ :: row.drop (i + l.length + 1)))

/-- slices.Delete, of the first step -/
theorem c27 (pb i : Nat) (row l : List Step) (x : Step) (hl : (row.drop i).take (l.length + 1) = x :: l) (hj : i + (l.length + 1) ≤ row.length) (hr : row.length ≤ 200000) (H : Heap) (hb : H pb = some (.arr 3 (row.map eStep)))
    (K : AV → Heap → Prop) (hk : K (.slr pb 3 i (i + l.length)) (H.upd pb (.arr 3 ((shifted row l i).map eStep)))) : ACalls Try.prog 27 [.slr pb 3 i (i + (l.length + 1)), int 0, int 1] H K := by
  have e1 : ((i + (l.length + 1) - i : Nat) : Int) = (l.length + 1 : Nat) := by omega
  have e2 : ((i + l.length - i : Nat) : Int) = (l.length : Nat) := by omega
  have hl2 : (row.drop (i + 1)).take l.length = l := by
    have h1 := congrArg List.tail hl
    rw [List.tail_cons, ← List.drop_one, List.drop_take, List.drop_drop] at h1
    simpa using h1
  refine ACalls.of_code Try.func27 rfl (by kernel_rfl) rfl (by simp [Try.ntmps27]) ?_
  rw [Try.ntmps27, Try.results27]; simp -implicitDefEqProofs only [go_sem, ↓reduceIte, Nat.reduceEqDiff, Nat.reduceAdd, Nat.reduceSub, Nat.reduceMul, Nat.reduceLeDiff, reduceCtorEq, Bool.false_eq_true, Nat.reduceLT, aAppend]
  refine ACode.seq ?_
  refine ACode.region [0, 1, 2] rfl fun K1 hK => ?_
  simp -implicitDefEqProofs only [go_sem, ↓reduceIte, Nat.reduceEqDiff, Nat.reduceAdd, Nat.reduceSub, Nat.reduceMul, Nat.reduceLeDiff, reduceCtorEq, Bool.false_eq_true, Nat.reduceLT, aAppend]
  refine hK _ _ ?_ _ (by simp -implicitDefEqProofs only [go_sem, ↓reduceIte, Nat.reduceEqDiff, Nat.reduceAdd, Nat.reduceSub, Nat.reduceMul, Nat.reduceLeDiff, reduceCtorEq, Bool.false_eq_true, Nat.reduceLT]; rfl); clear hK K1
  refine ACode.seq ?_
  refine ACode.region [0, 1, 2] rfl fun K1 hK => ?_
  simp -implicitDefEqProofs only [go_sem, ↓reduceIte, Nat.reduceEqDiff, Nat.reduceAdd, Nat.reduceSub, Nat.reduceMul, Nat.reduceLeDiff, reduceCtorEq, Bool.false_eq_true, Nat.reduceLT, aAppend]
  rw [e1]
  refine ⟨by omega, by omega, by omega, ?_⟩
  refine hK _ _ ?_ _ (by simp -implicitDefEqProofs only [go_sem, ↓reduceIte, Nat.reduceEqDiff, Nat.reduceAdd, Nat.reduceSub, Nat.reduceMul, Nat.reduceLeDiff, reduceCtorEq, Bool.false_eq_true, Nat.reduceLT]; rfl); clear hK K1
  refine ACode.seq ?_
  refine ACode.seq ?_
  refine ACode.region [0, 1, 2, 16] rfl fun K1 hK => ?_
  simp -implicitDefEqProofs only [go_sem, ↓reduceIte, Nat.reduceEqDiff, Nat.reduceAdd, Nat.reduceSub, Nat.reduceMul, Nat.reduceLeDiff, reduceCtorEq, Bool.false_eq_true, Nat.reduceLT, aAppend]
  refine hK _ _ ?_ _ (by simp -implicitDefEqProofs only [go_sem, ↓reduceIte, Nat.reduceEqDiff, Nat.reduceAdd, Nat.reduceSub, Nat.reduceMul, Nat.reduceLeDiff, reduceCtorEq, Bool.false_eq_true, Nat.reduceLT]; rfl); clear hK K1
  refine ACode.cond rfl (fun h => ?_) (fun h => ?_)
  · -- yes
    cases h
  · -- no
    try simp only [decide_eq_false_iff_not] at h
    refine ACode.skip ?_
    refine ACode.seq ?_
    refine ACode.region [0, 1, 2, 7] rfl fun K1 hK => ?_
    simp -implicitDefEqProofs only [go_sem, ↓reduceIte, Nat.reduceEqDiff, Nat.reduceAdd, Nat.reduceSub, Nat.reduceMul, Nat.reduceLeDiff, reduceCtorEq, Bool.false_eq_true, Nat.reduceLT, aAppend]
    rw [e1]
    refine hK _ _ ?_ _ (by simp -implicitDefEqProofs only [go_sem, ↓reduceIte, Nat.reduceEqDiff, Nat.reduceAdd, Nat.reduceSub, Nat.reduceMul, Nat.reduceLeDiff, reduceCtorEq, Bool.false_eq_true, Nat.reduceLT]; rfl); clear hK K1
    refine ACode.seq ?_
    refine ACode.region_draw [0, 7] [(0, 0), (1, 0), (2, 0), (3, 0), (4, 0), (5, 0), (6, 2), (7, 0)] (by kernel_rfl) (by kernel_rfl) rfl (by kernel_rfl) fun K1 hK => ?_
    simp -implicitDefEqProofs only [go_sem, ↓reduceIte, Nat.reduceEqDiff, Nat.reduceAdd, Nat.reduceSub, Nat.reduceMul, Nat.reduceLeDiff, reduceCtorEq, Bool.false_eq_true, Nat.reduceLT, hb]
    rw [e1, show i + (i + (l.length + 1) - i) = i + (l.length + 1) by omega]
    refine ⟨.inl trivial, by omega, by omega, .inl (by omega), ?_⟩
    have hs : srcOf H (.slr pb 3 (i + Int.toNat 1) (i + (l.length + 1))) = some (l.map eStep) := srcOf_slr hb (by simp; omega) (by rw [← List.map_drop, ← List.map_take, show i + (l.length + 1) - (i + Int.toNat 1) = l.length by simp; omega, show Int.toNat 1 = 1 from rfl, hl2])
    unfold aAppend
    simp only [el62, hs, ze74, hb, List.length_map, true_and]
    refine ⟨ni62, by omega, by omega, eStep_sizes _, ?_⟩
    rw [if_neg (by omega)]
    refine ⟨by omega, ?_⟩
    simp -implicitDefEqProofs only [go_sem, ↓reduceIte, Nat.reduceEqDiff, Nat.reduceAdd, Nat.reduceSub, Nat.reduceMul, Nat.reduceLeDiff, reduceCtorEq, Bool.false_eq_true, Nat.reduceLT, aAppend]
    refine hK _ _ ?_ _ (by simp -implicitDefEqProofs only [go_sem, ↓reduceIte, Nat.reduceEqDiff, Nat.reduceAdd, Nat.reduceSub, Nat.reduceMul, Nat.reduceLeDiff, reduceCtorEq, Bool.false_eq_true, Nat.reduceLT]; rfl); clear hK K1
    generalize hrow1 : (row.map eStep).take i ++ (l.map eStep ++ (row.map eStep).drop (i + l.length)) = row1
    have hb1 : (H.upd pb (.arr 3 row1)) pb = some (.arr 3 row1) := Heap.upd_same _ _ _
    have hlen1 : row1.length = row.length := by rw [← hrow1]; simp; omega
    refine ACode.seq ?_
    refine ACode.region [0] rfl fun K1 hK => ?_
    simp -implicitDefEqProofs only [go_sem, ↓reduceIte, Nat.reduceEqDiff, Nat.reduceAdd, Nat.reduceSub, Nat.reduceMul, Nat.reduceLeDiff, reduceCtorEq, Bool.false_eq_true, Nat.reduceLT, aAppend, hb1]
    rw [e2]
    have hcp : capped (H.upd pb (.arr 3 row1)) pb 3 i ((l.length + 1 : Nat) : Int) := ⟨by omega, row1, hb1, by rw [hlen1]; omega⟩
    rw [show i + (i + l.length - i) = i + l.length by omega, show i + (l.length + 1) - (i + l.length) = 1 by omega]
    refine ⟨by omega, .inr hcp, by omega, by rw [hlen1]; omega, ?_⟩
    refine hK _ _ ?_ _ (by simp -implicitDefEqProofs only [go_sem, ↓reduceIte, Nat.reduceEqDiff, Nat.reduceAdd, Nat.reduceSub, Nat.reduceMul, Nat.reduceLeDiff, reduceCtorEq, Bool.false_eq_true, Nat.reduceLT]; rfl); clear hK K1
    refine ACode.softArr pb (Heap.upd_same _ _ _) ?_
    rw [Heap.upd_upd]
    refine ACode.seq ?_
    refine ACode.region [6] rfl fun K1 hK => ?_
    simp -implicitDefEqProofs only [go_sem, ↓reduceIte, Nat.reduceEqDiff, Nat.reduceAdd, Nat.reduceSub, Nat.reduceMul, Nat.reduceLeDiff, reduceCtorEq, Bool.false_eq_true, Nat.reduceLT, aAppend]
    refine hK _ _ ?_ _ (by simp -implicitDefEqProofs only [go_sem, ↓reduceIte, Nat.reduceEqDiff, Nat.reduceAdd, Nat.reduceSub, Nat.reduceMul, Nat.reduceLeDiff, reduceCtorEq, Bool.false_eq_true, Nat.reduceLT]; rfl); clear hK K1
    refine ACode.ret ?_
    have e9 : AV.softs (row1.take (i + l.length) ++ (List.replicate 1 (AV.agg [.v (.string (mkS [])), .v (.slice none 0 0), .v (.slice none 0 0)]) ++ row1.drop (i + (l.length + 1)))) = (shifted row l i).map eStep := by
      have t1 : row1.take (i + l.length) = (row.take i ++ l).map eStep := by
        rw [← hrow1, ← List.append_assoc, List.take_append_of_le_length (by simp; omega), List.take_of_length_le (by simp; omega)]
        simp
      have t3 : row1.drop (i + l.length) = (row.map eStep).drop (i + l.length) := by
        rw [← hrow1, ← List.append_assoc, List.drop_append_of_le_length (by simp; omega), List.drop_of_length_le (by simp; omega), List.nil_append]
      have t2 : row1.drop (i + (l.length + 1)) = (row.drop (i + l.length + 1)).map eStep := by
        rw [show i + (l.length + 1) = (i + l.length) + 1 by omega, ← List.drop_drop, t3, List.drop_drop, List.map_drop]
      rw [t1, t2, softs_append, softs_append, softs_map _ eStep_soft, softs_map _ eStep_soft]
      simp [shifted, AV.softs, AV.soft, eStep, str]
    rw [← e9] at hk
    exact hk


end Go.Flow

