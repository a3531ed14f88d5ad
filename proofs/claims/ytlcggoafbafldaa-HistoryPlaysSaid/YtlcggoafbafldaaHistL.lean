/-
  Modules behind changes: the program's; of none, too. No condition.
-/
import Derived.Test.YtlcggoafbafldaaHistK
set_option linter.unusedVariables false
set_option linter.unusedSimpArgs false
set_option maxRecDepth 20000
namespace Go.Flow
open Go Go.Proofs

/-- whetstone/whetstoneref17.Apply: to no modules -/
theorem c28e (cs : List Change) (hcl : cs.length ≤ 1000000) (H : Heap) (K : AV → Heap → Prop)
    (hk : K (.tup [.sl [], int (applyC [] [] cs).2]) H) : ACalls Try.prog 28 [.sl [], .sl (cs.map eChange)] H K := by
  refine ACalls.of_code Try.func28 rfl (by kernel_rfl) rfl (by simp [Try.ntmps28]) ?_
  rw [Try.ntmps28, Try.results28]; simp -implicitDefEqProofs only [go_sem, ↓reduceIte, Nat.reduceEqDiff, Nat.reduceAdd, Nat.reduceSub, Nat.reduceMul, Nat.reduceLeDiff, reduceCtorEq, Bool.false_eq_true, Nat.reduceLT, aAppend]
  refine ACode.seq ?_
  refine ACode.region [0, 1] rfl fun K1 hK => ?_
  simp -implicitDefEqProofs only [go_sem, ↓reduceIte, Nat.reduceEqDiff, Nat.reduceAdd, Nat.reduceSub, Nat.reduceMul, Nat.reduceLeDiff, reduceCtorEq, Bool.false_eq_true, Nat.reduceLT, aAppend]
  refine hK _ _ ?_ _ (by simp -implicitDefEqProofs only [go_sem, ↓reduceIte, Nat.reduceEqDiff, Nat.reduceAdd, Nat.reduceSub, Nat.reduceMul, Nat.reduceLeDiff, reduceCtorEq, Bool.false_eq_true, Nat.reduceLT]; rfl); clear hK K1
  refine ACode.seq ?_
  refine ACode.region [0, 1, 6] rfl fun K1 hK => ?_
  simp -implicitDefEqProofs only [go_sem, ↓reduceIte, Nat.reduceEqDiff, Nat.reduceAdd, Nat.reduceSub, Nat.reduceMul, Nat.reduceLeDiff, reduceCtorEq, Bool.false_eq_true, Nat.reduceLT, aAppend]
  refine hK _ _ ?_ _ (by simp -implicitDefEqProofs only [go_sem, ↓reduceIte, Nat.reduceEqDiff, Nat.reduceAdd, Nat.reduceSub, Nat.reduceMul, Nat.reduceLeDiff, reduceCtorEq, Bool.false_eq_true, Nat.reduceLT]; rfl); clear hK K1
  refine ACode.seq ?_
  refine ACode.region [1, 6] rfl fun K1 hK => ?_
  simp -implicitDefEqProofs only [go_sem, ↓reduceIte, Nat.reduceEqDiff, Nat.reduceAdd, Nat.reduceSub, Nat.reduceMul, Nat.reduceLeDiff, reduceCtorEq, Bool.false_eq_true, Nat.reduceLT]
  refine AppSt.append (l2 := []) AppSt.nil el22 ze55 ni22 (by omega) (by omega) rfl (by simp [sizesAre]) (by simp) fun x H1 hst => ?_
  simp -implicitDefEqProofs only [go_sem, ↓reduceIte, Nat.reduceEqDiff, Nat.reduceAdd, Nat.reduceSub, Nat.reduceMul, Nat.reduceLeDiff, reduceCtorEq, Bool.false_eq_true, Nat.reduceLT, aAppend]
  refine hK _ _ ?_ _ (by simp -implicitDefEqProofs only [go_sem, ↓reduceIte, Nat.reduceEqDiff, Nat.reduceAdd, Nat.reduceSub, Nat.reduceMul, Nat.reduceLeDiff, reduceCtorEq, Bool.false_eq_true, Nat.reduceLT]; rfl); clear hK K1
  refine AppSt.done 6 hst rfl ?_
  simp -implicitDefEqProofs only [go_sem, ↓reduceIte, Nat.reduceEqDiff, Nat.reduceAdd, Nat.reduceSub, Nat.reduceMul, Nat.reduceLeDiff, reduceCtorEq, Bool.false_eq_true, Nat.reduceLT, aAppend]
  refine ACode.seq ?_
  refine ACode.seq ?_
  refine ACode.region [1, 6, 7] rfl fun K1 hK => ?_
  simp -implicitDefEqProofs only [go_sem, ↓reduceIte, Nat.reduceEqDiff, Nat.reduceAdd, Nat.reduceSub, Nat.reduceMul, Nat.reduceLeDiff, reduceCtorEq, Bool.false_eq_true, Nat.reduceLT, aAppend]
  refine hK _ _ ?_ _ (by simp -implicitDefEqProofs only [go_sem, ↓reduceIte, Nat.reduceEqDiff, Nat.reduceAdd, Nat.reduceSub, Nat.reduceMul, Nat.reduceLeDiff, reduceCtorEq, Bool.false_eq_true, Nat.reduceLT]; rfl); clear hK K1
  refine ACode.block ?_
  refine ACode.loop (fun m ρ H' => H' = H ∧ ρ = [(1, .sl (cs.map eChange)), (6, .sl []), (7, int 0)]) 0 ⟨rfl, rfl⟩ ?_
  rintro m ρ H' ⟨rfl, rfl⟩
  simp -implicitDefEqProofs only [go_sem, ↓reduceIte, Nat.reduceEqDiff, Nat.reduceAdd, Nat.reduceSub, Nat.reduceMul, Nat.reduceLeDiff, reduceCtorEq, Bool.false_eq_true, Nat.reduceLT, aAppend]
  refine ACode.seq ?_
  refine ACode.seq ?_
  refine ACode.region [1, 6, 7, 18] rfl fun K1 hK => ?_
  simp -implicitDefEqProofs only [go_sem, ↓reduceIte, Nat.reduceEqDiff, Nat.reduceAdd, Nat.reduceSub, Nat.reduceMul, Nat.reduceLeDiff, reduceCtorEq, Bool.false_eq_true, Nat.reduceLT, aAppend]
  refine hK _ _ ?_ _ (by simp -implicitDefEqProofs only [go_sem, ↓reduceIte, Nat.reduceEqDiff, Nat.reduceAdd, Nat.reduceSub, Nat.reduceMul, Nat.reduceLeDiff, reduceCtorEq, Bool.false_eq_true, Nat.reduceLT]; rfl); clear hK K1
  refine ACode.cond rfl (fun h => ?_) (fun h => ?_)
  · -- yes
    try simp only [decide_eq_true_eq] at h
    obtain ⟨c, hx, hd, hm, ht⟩ := at_drop cs 0 (by omega)
    rw [List.drop_zero] at hd
    refine ACode.skip ?_
    refine ACode.seq ?_
    refine ACode.block ?_
    refine ACode.seq ?_
    refine ACode.region [1, 6, 7, 8] rfl fun K1 hK => ?_
    simp -implicitDefEqProofs only [go_sem, ↓reduceIte, Nat.reduceEqDiff, Nat.reduceAdd, Nat.reduceSub, Nat.reduceMul, Nat.reduceLeDiff, reduceCtorEq, Bool.false_eq_true, Nat.reduceLT, aAppend, hx, eChange]
    refine c40 [] c.Module (by simp) _ _ ?_
    simp -implicitDefEqProofs only [go_sem, ↓reduceIte, Nat.reduceEqDiff, Nat.reduceAdd, Nat.reduceSub, Nat.reduceMul, Nat.reduceLeDiff, reduceCtorEq, Bool.false_eq_true, Nat.reduceLT, aAppend]
    refine hK _ _ ?_ _ (by simp -implicitDefEqProofs only [go_sem, ↓reduceIte, Nat.reduceEqDiff, Nat.reduceAdd, Nat.reduceSub, Nat.reduceMul, Nat.reduceLeDiff, reduceCtorEq, Bool.false_eq_true, Nat.reduceLT]; rfl); clear hK K1
    refine ACode.seq ?_
    refine ACode.seq ?_
    refine ACode.region [1, 6, 7, 8, 29] rfl fun K1 hK => ?_
    simp -implicitDefEqProofs only [go_sem, ↓reduceIte, Nat.reduceEqDiff, Nat.reduceAdd, Nat.reduceSub, Nat.reduceMul, Nat.reduceLeDiff, reduceCtorEq, Bool.false_eq_true, Nat.reduceLT, aAppend]
    refine hK _ _ ?_ _ (by simp -implicitDefEqProofs only [go_sem, ↓reduceIte, Nat.reduceEqDiff, Nat.reduceAdd, Nat.reduceSub, Nat.reduceMul, Nat.reduceLeDiff, reduceCtorEq, Bool.false_eq_true, Nat.reduceLT]; rfl); clear hK K1
    refine ACode.cond rfl (fun h => ?_) (fun h => ?_)
    · -- yes
      try simp only [decide_eq_true_eq] at h
      refine ACode.seq ?_
      refine ACode.region [4, 5] rfl fun K1 hK => ?_
      simp -implicitDefEqProofs only [go_sem, ↓reduceIte, Nat.reduceEqDiff, Nat.reduceAdd, Nat.reduceSub, Nat.reduceMul, Nat.reduceLeDiff, reduceCtorEq, Bool.false_eq_true, Nat.reduceLT, aAppend]
      refine hK _ _ ?_ _ (by simp -implicitDefEqProofs only [go_sem, ↓reduceIte, Nat.reduceEqDiff, Nat.reduceAdd, Nat.reduceSub, Nat.reduceMul, Nat.reduceLeDiff, reduceCtorEq, Bool.false_eq_true, Nat.reduceLT]; rfl); clear hK K1
      refine ACode.soft 4 ?_
      simp -implicitDefEqProofs only [go_sem, ↓reduceIte, Nat.reduceEqDiff, Nat.reduceAdd, Nat.reduceSub, Nat.reduceMul, Nat.reduceLeDiff, reduceCtorEq, Bool.false_eq_true, Nat.reduceLT, aAppend, AV.soft]
      refine ACode.ret ?_
      rw [hd, applyC, if_pos (by simp [findMod, findFrom])] at hk
      exact hk
    · -- no
      exact absurd h (by simp [findMod, findFrom])
  · -- no
    try simp only [decide_eq_false_iff_not] at h
    refine ACode.exit ?_
    have e : cs = [] := by
      cases cs with
      | nil => rfl
      | cons c r => simp at h
    subst e
    refine ACode.seq ?_
    refine ACode.region [4, 5] rfl fun K1 hK => ?_
    simp -implicitDefEqProofs only [go_sem, ↓reduceIte, Nat.reduceEqDiff, Nat.reduceAdd, Nat.reduceSub, Nat.reduceMul, Nat.reduceLeDiff, reduceCtorEq, Bool.false_eq_true, Nat.reduceLT, aAppend]
    refine hK _ _ ?_ _ (by simp -implicitDefEqProofs only [go_sem, ↓reduceIte, Nat.reduceEqDiff, Nat.reduceAdd, Nat.reduceSub, Nat.reduceMul, Nat.reduceLeDiff, reduceCtorEq, Bool.false_eq_true, Nat.reduceLT]; rfl); clear hK K1
    refine ACode.soft 4 ?_
    simp -implicitDefEqProofs only [go_sem, ↓reduceIte, Nat.reduceEqDiff, Nat.reduceAdd, Nat.reduceSub, Nat.reduceMul, Nat.reduceLeDiff, reduceCtorEq, Bool.false_eq_true, Nat.reduceLT, aAppend, AV.soft]
    refine ACode.ret ?_
    exact hk


def Edit34 : Prop := ∀ (s : List UInt8) (l : List Edit), s.length ≤ 140737488355328 → l.length ≤ 1000000 → (∀ x ∈ l, x.Text.length ≤ 140737488355328) → (Sound l s.length = 0 → (appFrom s 0 l).length ≤ 140737488355328) →
  ∀ (H : Heap) (K : AV → Heap → Prop), K (.tup [str (Apply s l).1, int (Apply s l).2]) H → ACalls Try.prog 34 [str s, .sl (l.map eEdit)] H K

def esSeen (seen : List (List UInt8)) : List (Value × AV) := seen.map fun n => (.string (mkS n), boo true)
theorem sameKey_str (a b : List UInt8) : sameKey (.string (mkS a)) (.string (mkS b)) = decide (a = b) := by simp [sameKey, mkS_list]
theorem findA_seen (n : List UInt8) : ∀ seen, findA (.string (mkS n)) (esSeen seen) = if n ∈ seen then some (boo true) else none
  | [] => rfl
  | m :: r => by
    have ih := findA_seen n r
    simp only [esSeen, List.map_cons, findA, sameKey_str, decide_eq_true_eq, List.mem_cons] at ih ⊢
    by_cases h : n = m
    · simp [h]
    · simp [h, ih]
theorem setA_seen (n : List UInt8) : ∀ seen, n ∉ seen → setA (.string (mkS n)) (boo true) (esSeen seen) = esSeen (seen ++ [n])
  | [], _ => rfl
  | m :: r, h => by
    have ih := setA_seen n r (fun h' => h (List.mem_cons_of_mem _ h'))
    have hne : ¬ n = m := fun e => h (by rw [e]; exact List.mem_cons_self)
    simp only [esSeen, List.map_cons, setA, sameKey_str, decide_eq_true_eq, if_neg hne, List.cons_append] at ih ⊢
    rw [ih]
theorem keys_seen (n : List UInt8) (seen : List (List UInt8)) : keysAre (.string (mkS n)) (esSeen seen) := by
  intro e he
  obtain ⟨m, -, rfl⟩ := List.mem_map.1 he
  exact ⟨rfl, fun j n j' n' h => by cases h⟩

/-- whetstone/change.Apply: to some modules -/
theorem c23p (h34 : Edit34) (l : List Mod) (cs : List Change) (h0 : l ≠ []) (hl : l.length ≤ 1000000) (hcl : cs.length ≤ 1000000) (hce : ∀ c ∈ cs, c.Edits.length ≤ 1000000) (hroom : Roomy l cs) (H : Heap) (K : AV → Heap → Prop)
    (hk : K (.tup [.sl ((applyC l [] cs).1.map eMod), int (applyC l [] cs).2]) H) : ACalls Try.prog 23 [.sl (l.map eMod), .sl (cs.map eChange)] H K := by
  refine ACalls.of_code Try.func23 rfl (by kernel_rfl) rfl (by simp [Try.ntmps23]) ?_
  rw [Try.ntmps23, Try.results23]; simp -implicitDefEqProofs only [go_sem, ↓reduceIte, Nat.reduceEqDiff, Nat.reduceAdd, Nat.reduceSub, Nat.reduceMul, Nat.reduceLeDiff, reduceCtorEq, Bool.false_eq_true, Nat.reduceLT, aAppend]
  refine ACode.seq ?_
  refine ACode.region [0, 1] rfl fun K1 hK => ?_
  simp -implicitDefEqProofs only [go_sem, ↓reduceIte, Nat.reduceEqDiff, Nat.reduceAdd, Nat.reduceSub, Nat.reduceMul, Nat.reduceLeDiff, reduceCtorEq, Bool.false_eq_true, Nat.reduceLT, aAppend]
  refine hK _ _ ?_ _ (by simp -implicitDefEqProofs only [go_sem, ↓reduceIte, Nat.reduceEqDiff, Nat.reduceAdd, Nat.reduceSub, Nat.reduceMul, Nat.reduceLeDiff, reduceCtorEq, Bool.false_eq_true, Nat.reduceLT]; rfl); clear hK K1
  refine ACode.seq ?_
  refine ACode.region [1, 6] rfl fun K1 hK => ?_
  simp -implicitDefEqProofs only [go_sem, ↓reduceIte, Nat.reduceEqDiff, Nat.reduceAdd, Nat.reduceSub, Nat.reduceMul, Nat.reduceLeDiff, reduceCtorEq, Bool.false_eq_true, Nat.reduceLT, aAppend]
  refine c30 l (by omega) _ _ fun x H1 hst => ?_
  simp -implicitDefEqProofs only [go_sem, ↓reduceIte, Nat.reduceEqDiff, Nat.reduceAdd, Nat.reduceSub, Nat.reduceMul, Nat.reduceLeDiff, reduceCtorEq, Bool.false_eq_true, Nat.reduceLT, aAppend]
  refine hK _ _ ?_ _ (by simp -implicitDefEqProofs only [go_sem, ↓reduceIte, Nat.reduceEqDiff, Nat.reduceAdd, Nat.reduceSub, Nat.reduceMul, Nat.reduceLeDiff, reduceCtorEq, Bool.false_eq_true, Nat.reduceLT]; rfl); clear hK K1
  obtain ⟨hle, ⟨hn, rfl⟩ | ⟨b, hb, hb1, rfl⟩⟩ := hst
  · exact absurd (by simpa using hn) h0
  rw [List.length_map]
  refine ACode.seq ?_
  refine ACode.region [1, 6, 7] rfl fun K1 hK => ?_
  simp -implicitDefEqProofs only [go_sem, ↓reduceIte, Nat.reduceEqDiff, Nat.reduceAdd, Nat.reduceSub, Nat.reduceMul, Nat.reduceLeDiff, reduceCtorEq, Bool.false_eq_true, Nat.reduceLT, aAppend]
  intro mb hmb
  refine hK _ _ ?_ _ (by simp -implicitDefEqProofs only [go_sem, ↓reduceIte, Nat.reduceEqDiff, Nat.reduceAdd, Nat.reduceSub, Nat.reduceMul, Nat.reduceLeDiff, reduceCtorEq, Bool.false_eq_true, Nat.reduceLT]; rfl); clear hK K1
  have hbm : b ≠ mb := fun e => by subst e; rw [hb1] at hmb; cases hmb
  have hHm : H mb = none := by
    cases e : H mb with
    | none => rfl
    | some q => rw [hle mb q e] at hmb; cases hmb
  refine ACode.seq ?_
  refine ACode.seq ?_
  refine ACode.region [6, 7, 16, 17, 18] rfl fun K1 hK => ?_
  simp -implicitDefEqProofs only [go_sem, ↓reduceIte, Nat.reduceEqDiff, Nat.reduceAdd, Nat.reduceSub, Nat.reduceMul, Nat.reduceLeDiff, reduceCtorEq, Bool.false_eq_true, Nat.reduceLT, aAppend]
  refine hK _ _ ?_ _ (by simp -implicitDefEqProofs only [go_sem, ↓reduceIte, Nat.reduceEqDiff, Nat.reduceAdd, Nat.reduceSub, Nat.reduceMul, Nat.reduceLeDiff, reduceCtorEq, Bool.false_eq_true, Nat.reduceLT]; rfl); clear hK K1
  refine ACode.block ?_
  refine ACode.loop (fun m ρ H' => ∃ (k : Nat) (out : List Mod), m = cs.length - k ∧ k ≤ cs.length ∧ out.length = l.length ∧ Roomy out (cs.drop k) ∧ applyC l [] cs = applyC out ((cs.take k).map (·.Module)) (cs.drop k) ∧ Heap.le H H' ∧ H' b = some (.arr 2 (out.map eMod)) ∧ H' mb = some (.map (esSeen ((cs.take k).map (·.Module)))) ∧ ρ = [(6, .slr b 2 0 l.length), (7, .mp mb), (16, .sl (cs.map eChange)), (17, int cs.length), (18, int k)]) cs.length ⟨0, l, rfl, Nat.zero_le _, rfl, hroom, rfl, ?_, ?_, Heap.upd_same _ _ _, rfl⟩ ?_
  · intro c q hc
    have : c ≠ mb := fun e => by subst e; rw [hHm] at hc; cases hc
    rw [Heap.upd_other _ _ this]; exact hle c q hc
  · rw [Heap.upd_other _ _ hbm]; exact hb1
  rintro m ρ H' ⟨k, out, rfl, hkl, hlen, hro, hap, hle', hA, hM, rfl⟩
  simp -implicitDefEqProofs only [go_sem, ↓reduceIte, Nat.reduceEqDiff, Nat.reduceAdd, Nat.reduceSub, Nat.reduceMul, Nat.reduceLeDiff, reduceCtorEq, Bool.false_eq_true, Nat.reduceLT, aAppend]
  refine ACode.seq ?_
  refine ACode.region [6, 7, 16, 17, 18, 19] rfl fun K1 hK => ?_
  simp -implicitDefEqProofs only [go_sem, ↓reduceIte, Nat.reduceEqDiff, Nat.reduceAdd, Nat.reduceSub, Nat.reduceMul, Nat.reduceLeDiff, reduceCtorEq, Bool.false_eq_true, Nat.reduceLT, aAppend]
  refine hK _ _ ?_ _ (by simp -implicitDefEqProofs only [go_sem, ↓reduceIte, Nat.reduceEqDiff, Nat.reduceAdd, Nat.reduceSub, Nat.reduceMul, Nat.reduceLeDiff, reduceCtorEq, Bool.false_eq_true, Nat.reduceLT]; rfl); clear hK K1
  refine ACode.seq ?_
  refine ACode.cond rfl (fun h => ?_) (fun h => ?_)
  · -- yes
    try simp only [decide_eq_true_eq] at h
    obtain ⟨c, hx, hd, hm, ht⟩ := at_drop cs k (by omega)
    rw [hd] at hro
    rw [hd, applyC] at hap
    have hf := fun K => c25r b out c.Module (by omega) H' hA K
    rw [hlen] at hf
    refine ACode.skip ?_
    refine ACode.seq ?_
    refine ACode.block ?_
    refine ACode.seq ?_
    refine ACode.region [6, 7, 9, 16, 17, 18] rfl fun K1 hK => ?_
    simp -implicitDefEqProofs only [go_sem, ↓reduceIte, Nat.reduceEqDiff, Nat.reduceAdd, Nat.reduceSub, Nat.reduceMul, Nat.reduceLeDiff, reduceCtorEq, Bool.false_eq_true, Nat.reduceLT, aAppend, hx, eChange]
    intro p hp
    refine hK _ _ ?_ _ (by simp -implicitDefEqProofs only [go_sem, ↓reduceIte, Nat.reduceEqDiff, Nat.reduceAdd, Nat.reduceSub, Nat.reduceMul, Nat.reduceLeDiff, reduceCtorEq, Bool.false_eq_true, Nat.reduceLT]; rfl); clear hK K1
    refine ACode.freeze1 p 9 (Heap.upd_same _ _ _) ?_
    simp -implicitDefEqProofs only [go_sem, ↓reduceIte, Nat.reduceEqDiff, Nat.reduceAdd, Nat.reduceSub, Nat.reduceMul, Nat.reduceLeDiff, reduceCtorEq, Bool.false_eq_true, Nat.reduceLT, aAppend, Heap.erase_upd_same _ p _ hp]
    refine ACode.seq ?_
    refine ACode.region [6, 7, 9, 10, 16, 17, 18] rfl fun K1 hK => ?_
    simp -implicitDefEqProofs only [go_sem, ↓reduceIte, Nat.reduceEqDiff, Nat.reduceAdd, Nat.reduceSub, Nat.reduceMul, Nat.reduceLeDiff, reduceCtorEq, Bool.false_eq_true, Nat.reduceLT, aAppend]
    refine hf _ ?_
    simp -implicitDefEqProofs only [go_sem, ↓reduceIte, Nat.reduceEqDiff, Nat.reduceAdd, Nat.reduceSub, Nat.reduceMul, Nat.reduceLeDiff, reduceCtorEq, Bool.false_eq_true, Nat.reduceLT, aAppend]
    refine hK _ _ ?_ _ (by simp -implicitDefEqProofs only [go_sem, ↓reduceIte, Nat.reduceEqDiff, Nat.reduceAdd, Nat.reduceSub, Nat.reduceMul, Nat.reduceLeDiff, reduceCtorEq, Bool.false_eq_true, Nat.reduceLT]; rfl); clear hK K1
    refine ACode.seq ?_
    refine ACode.block ?_
    refine ACode.seq ?_
    refine ACode.region [6, 7, 9, 10, 16, 17, 18, 26] rfl fun K1 hK => ?_
    simp -implicitDefEqProofs only [go_sem, ↓reduceIte, Nat.reduceEqDiff, Nat.reduceAdd, Nat.reduceSub, Nat.reduceMul, Nat.reduceLeDiff, reduceCtorEq, Bool.false_eq_true, Nat.reduceLT, aAppend]
    refine hK _ _ ?_ _ (by simp -implicitDefEqProofs only [go_sem, ↓reduceIte, Nat.reduceEqDiff, Nat.reduceAdd, Nat.reduceSub, Nat.reduceMul, Nat.reduceLeDiff, reduceCtorEq, Bool.false_eq_true, Nat.reduceLT]; rfl); clear hK K1
    refine ACode.cond rfl (fun h => ?_) (fun h => ?_)
    · -- yes
      try simp only [decide_eq_true_eq] at h
      rw [hap, if_pos h] at hk
      refine ACode.seq ?_
      refine ACode.region [4, 5] rfl fun K1 hK => ?_
      simp -implicitDefEqProofs only [go_sem, ↓reduceIte, Nat.reduceEqDiff, Nat.reduceAdd, Nat.reduceSub, Nat.reduceMul, Nat.reduceLeDiff, reduceCtorEq, Bool.false_eq_true, Nat.reduceLT, aAppend]
      refine hK _ _ ?_ _ (by simp -implicitDefEqProofs only [go_sem, ↓reduceIte, Nat.reduceEqDiff, Nat.reduceAdd, Nat.reduceSub, Nat.reduceMul, Nat.reduceLeDiff, reduceCtorEq, Bool.false_eq_true, Nat.reduceLT]; rfl); clear hK K1
      refine ACode.drop ?_ hle'
      refine ACode.soft 4 ?_
      simp -implicitDefEqProofs only [go_sem, ↓reduceIte, Nat.reduceEqDiff, Nat.reduceAdd, Nat.reduceSub, Nat.reduceMul, Nat.reduceLeDiff, reduceCtorEq, Bool.false_eq_true, Nat.reduceLT, aAppend, AV.soft]
      refine ACode.ret ?_
      exact hk
    · -- no
      try simp only [decide_eq_false_iff_not] at h
      rw [if_neg h] at hap
      obtain ⟨i, mm, hi, hmi, hmn⟩ := findMod_spec out c.Module h
      have hil : i < out.length := (List.getElem?_eq_some_iff.1 hmi).1
      rw [hi] at hap ⊢
      rw [Int.toNat_natCast] at hap
      refine ACode.seq ?_
      refine ACode.region_cut [6, 7, 9, 10, 16, 17, 18, 29] (fun ρ' H2 => ∃ t : Bool, (t = true ↔ c.Module ∈ (cs.take k).map (·.Module)) ∧ H2 = H' ∧ ρ' = [(6, .slr b 2 0 l.length), (7, .mp mb), (9, .ip (eChange c)), (10, int i), (16, .sl (cs.map eChange)), (17, int cs.length), (18, int k), (29, boo t)]) rfl (fun K1 hK => ?_) ?_
      · by_cases hin : c.Module ∈ (cs.take k).map (·.Module)
        · have hfa := findA_seen c.Module ((cs.take k).map (·.Module))
          rw [if_pos hin] at hfa
          simp -implicitDefEqProofs only [go_sem, ↓reduceIte, Nat.reduceEqDiff, Nat.reduceAdd, Nat.reduceSub, Nat.reduceMul, Nat.reduceLeDiff, reduceCtorEq, Bool.false_eq_true, Nat.reduceLT, aAppend, hM, hfa, keyK]
          refine ⟨by omega, keys_seen _ _, ?_⟩
          refine hK _ _ ⟨true, iff_of_true rfl hin, rfl, rfl⟩ _ (by simp -implicitDefEqProofs only [go_sem, ↓reduceIte, Nat.reduceEqDiff, Nat.reduceAdd, Nat.reduceSub, Nat.reduceMul, Nat.reduceLeDiff, reduceCtorEq, Bool.false_eq_true, Nat.reduceLT, aAppend, eChange] <;> rfl)
        · have hfa := findA_seen c.Module ((cs.take k).map (·.Module))
          rw [if_neg hin] at hfa
          simp -implicitDefEqProofs only [go_sem, ↓reduceIte, Nat.reduceEqDiff, Nat.reduceAdd, Nat.reduceSub, Nat.reduceMul, Nat.reduceLeDiff, reduceCtorEq, Bool.false_eq_true, Nat.reduceLT, aAppend, hM, hfa, keyK]
          refine ⟨by omega, keys_seen _ _, ?_⟩
          refine hK _ _ ⟨false, iff_of_false (by simp) hin, rfl, rfl⟩ _ (by simp -implicitDefEqProofs only [go_sem, ↓reduceIte, Nat.reduceEqDiff, Nat.reduceAdd, Nat.reduceSub, Nat.reduceMul, Nat.reduceLeDiff, reduceCtorEq, Bool.false_eq_true, Nat.reduceLT, aAppend, eChange] <;> rfl)
      rintro ρ' H2 ⟨t, ht29, rfl, rfl⟩
      refine ACode.cond rfl (fun h => ?_) (fun h => ?_)
      · -- yes
        try simp only [decide_eq_true_eq] at h
        subst h
        rw [if_pos (ht29.1 rfl)] at hap
        rw [hap] at hk
        refine ACode.seq ?_
        refine ACode.region [4, 5] rfl fun K1 hK => ?_
        simp -implicitDefEqProofs only [go_sem, ↓reduceIte, Nat.reduceEqDiff, Nat.reduceAdd, Nat.reduceSub, Nat.reduceMul, Nat.reduceLeDiff, reduceCtorEq, Bool.false_eq_true, Nat.reduceLT, aAppend]
        refine hK _ _ ?_ _ (by simp -implicitDefEqProofs only [go_sem, ↓reduceIte, Nat.reduceEqDiff, Nat.reduceAdd, Nat.reduceSub, Nat.reduceMul, Nat.reduceLeDiff, reduceCtorEq, Bool.false_eq_true, Nat.reduceLT]; rfl); clear hK K1
        refine ACode.drop ?_ hle'
        refine ACode.soft 4 ?_
        simp -implicitDefEqProofs only [go_sem, ↓reduceIte, Nat.reduceEqDiff, Nat.reduceAdd, Nat.reduceSub, Nat.reduceMul, Nat.reduceLeDiff, reduceCtorEq, Bool.false_eq_true, Nat.reduceLT, aAppend, AV.soft]
        refine ACode.ret ?_
        exact hk
      · -- no
        try simp only [decide_eq_false_iff_not] at h
        subst h
        have hnin : ¬ c.Module ∈ (cs.take k).map (·.Module) := fun h => by simpa using ht29.2 h
        rw [if_neg hnin] at hap
        have htx : textAt out i = mm.Text := by rw [textAt, hmi]
        have hset : ∀ t, setText out i t = out.set i ⟨mm.Name, t⟩ := fun t => by rw [setText, hmi]
        rw [htx, hset] at hap
        obtain ⟨r1, r2, r3⟩ := roomy_step hro hmi
        have hcE := hce c hm
        refine ACode.skip ?_
        refine ACode.seq ?_
        refine ACode.region [6, 7, 9, 10, 16, 17, 18] rfl fun K1 hK => ?_
        have hsa := setA_seen c.Module _ hnin
        rw [boo] at hsa
        simp -implicitDefEqProofs only [go_sem, ↓reduceIte, Nat.reduceEqDiff, Nat.reduceAdd, Nat.reduceSub, Nat.reduceMul, Nat.reduceLeDiff, reduceCtorEq, Bool.false_eq_true, Nat.reduceLT, aAppend, hM, keyK, eChange]
        refine ⟨by omega, keys_seen _ _, ?_⟩
        rw [hsa]
        refine hK _ _ ?_ _ (by simp -implicitDefEqProofs only [go_sem, ↓reduceIte, Nat.reduceEqDiff, Nat.reduceAdd, Nat.reduceSub, Nat.reduceMul, Nat.reduceLeDiff, reduceCtorEq, Bool.false_eq_true, Nat.reduceLT]; rfl); clear hK K1
        have hA2 : (H2.upd mb (.map (esSeen ((cs.take k).map (·.Module) ++ [c.Module])))) b = some (.arr 2 (out.map eMod)) := by rw [Heap.upd_other _ _ hbm]; exact hA
        have hM2 : (H2.upd mb (.map (esSeen ((cs.take k).map (·.Module) ++ [c.Module])))) mb = some (.map (esSeen ((cs.take k).map (·.Module) ++ [c.Module]))) := Heap.upd_same _ _ _
        have hle2 : Heap.le H (H2.upd mb (.map (esSeen ((cs.take k).map (·.Module) ++ [c.Module])))) := fun d q hc => by
          have : d ≠ mb := fun e => by subst e; rw [hHm] at hc; cases hc
          rw [Heap.upd_other _ _ this]; exact hle' d q hc
        generalize H2.upd mb (.map (esSeen ((cs.take k).map (·.Module) ++ [c.Module]))) = H3 at *
        refine ACode.seq ?_
        refine ACode.region_draw [6, 7, 10, 11, 12, 16, 17, 18] [(0, 0), (1, 0), (2, 0), (3, 0), (5, 0), (4, 1), (6, 1), (7, 2), (8, 0), (9, 0), (10, 0), (11, 0), (12, 0)] (by kernel_rfl) (by kernel_rfl) rfl (by kernel_rfl) fun K1 hK => ?_
        simp -implicitDefEqProofs only [go_sem, ↓reduceIte, Nat.reduceEqDiff, Nat.reduceAdd, Nat.reduceSub, Nat.reduceMul, Nat.reduceLeDiff, reduceCtorEq, Bool.false_eq_true, Nat.reduceLT, aAppend, hA2, hmi, eMod, eChange]
        refine ⟨by omega, ?_⟩
        refine h34 mm.Text c.Edits r1 hcE r2 (fun hsd => (r3 hsd).1) _ _ ?_
        simp -implicitDefEqProofs only [go_sem, ↓reduceIte, Nat.reduceEqDiff, Nat.reduceAdd, Nat.reduceSub, Nat.reduceMul, Nat.reduceLeDiff, reduceCtorEq, Bool.false_eq_true, Nat.reduceLT, aAppend]
        refine hK _ _ ?_ _ (by simp -implicitDefEqProofs only [go_sem, ↓reduceIte, Nat.reduceEqDiff, Nat.reduceAdd, Nat.reduceSub, Nat.reduceMul, Nat.reduceLeDiff, reduceCtorEq, Bool.false_eq_true, Nat.reduceLT]; rfl); clear hK K1
        refine ACode.seq ?_
        refine ACode.seq ?_
        refine ACode.region [6, 7, 10, 11, 12, 16, 17, 18, 49] rfl fun K1 hK => ?_
        simp -implicitDefEqProofs only [go_sem, ↓reduceIte, Nat.reduceEqDiff, Nat.reduceAdd, Nat.reduceSub, Nat.reduceMul, Nat.reduceLeDiff, reduceCtorEq, Bool.false_eq_true, Nat.reduceLT, aAppend]
        refine hK _ _ ?_ _ (by simp -implicitDefEqProofs only [go_sem, ↓reduceIte, Nat.reduceEqDiff, Nat.reduceAdd, Nat.reduceSub, Nat.reduceMul, Nat.reduceLeDiff, reduceCtorEq, Bool.false_eq_true, Nat.reduceLT]; rfl); clear hK K1
        refine ACode.cond rfl (fun h => ?_) (fun h => ?_)
        · -- yes
          try simp only [decide_eq_true_eq] at h
          have he : ¬ (Apply mm.Text c.Edits).2 = 0 := by simpa using h
          rw [if_neg he] at hap
          rw [hap] at hk
          refine ACode.seq ?_
          refine ACode.region [4, 5] rfl fun K1 hK => ?_
          simp -implicitDefEqProofs only [go_sem, ↓reduceIte, Nat.reduceEqDiff, Nat.reduceAdd, Nat.reduceSub, Nat.reduceMul, Nat.reduceLeDiff, reduceCtorEq, Bool.false_eq_true, Nat.reduceLT, aAppend]
          refine hK _ _ ?_ _ (by simp -implicitDefEqProofs only [go_sem, ↓reduceIte, Nat.reduceEqDiff, Nat.reduceAdd, Nat.reduceSub, Nat.reduceMul, Nat.reduceLeDiff, reduceCtorEq, Bool.false_eq_true, Nat.reduceLT]; rfl); clear hK K1
          refine ACode.drop ?_ hle2
          refine ACode.soft 4 ?_
          simp -implicitDefEqProofs only [go_sem, ↓reduceIte, Nat.reduceEqDiff, Nat.reduceAdd, Nat.reduceSub, Nat.reduceMul, Nat.reduceLeDiff, reduceCtorEq, Bool.false_eq_true, Nat.reduceLT, aAppend, AV.soft]
          refine ACode.ret ?_
          exact hk
        · -- no
          try simp only [decide_eq_false_iff_not] at h
          have he : (Apply mm.Text c.Edits).2 = 0 := by simpa using h
          rw [if_pos he] at hap
          have hsd : Sound c.Edits mm.Text.length = 0 := by
            rw [Apply] at he
            split at he
            · assumption
            · exact he
          have hA1 : (Apply mm.Text c.Edits).1 = appFrom mm.Text 0 c.Edits := by rw [Apply, if_pos hsd]
          rw [hA1] at hap ⊢
          refine ACode.skip ?_
          refine ACode.region [6, 7, 16, 17, 18] rfl fun K1 hK => ?_
          simp -implicitDefEqProofs only [go_sem, ↓reduceIte, Nat.reduceEqDiff, Nat.reduceAdd, Nat.reduceSub, Nat.reduceMul, Nat.reduceLeDiff, reduceCtorEq, Bool.false_eq_true, Nat.reduceLT, aAppend, hA2, hmi, eMod]
          refine ⟨by omega, ?_⟩
          refine hK _ _ ?_ _ (by simp -implicitDefEqProofs only [go_sem, ↓reduceIte, Nat.reduceEqDiff, Nat.reduceAdd, Nat.reduceSub, Nat.reduceMul, Nat.reduceLeDiff, reduceCtorEq, Bool.false_eq_true, Nat.reduceLT]; rfl); clear hK K1
          refine ACode.region [6, 7, 16, 17, 18] rfl fun K1 hK => ?_
          simp -implicitDefEqProofs only [go_sem, ↓reduceIte, Nat.reduceEqDiff, Nat.reduceAdd, Nat.reduceSub, Nat.reduceMul, Nat.reduceLeDiff, reduceCtorEq, Bool.false_eq_true, Nat.reduceLT, aAppend]
          rw [wrap_i64 (by omega) (by omega)]
          refine hK _ _ ?_ _ (by simp -implicitDefEqProofs only [go_sem, ↓reduceIte, Nat.reduceEqDiff, Nat.reduceAdd, Nat.reduceSub, Nat.reduceMul, Nat.reduceLeDiff, reduceCtorEq, Bool.false_eq_true, Nat.reduceLT]; rfl); clear hK K1
          refine ⟨_, by omega, k + 1, out.set i ⟨mm.Name, appFrom mm.Text 0 c.Edits⟩, rfl, by omega, by rw [List.length_set]; exact hlen, (r3 hsd).2, ?_, ?_, ?_, ?_, by simp <;> rfl⟩
          · rw [hap, ht]; simp
          · intro d q hc
            have : d ≠ b := fun e => by subst e; rw [hb] at hc; cases hc
            rw [Heap.upd_other _ _ this]; exact hle2 d q hc
          · rw [Heap.upd_same, List.map_set]; rfl
          · rw [Heap.upd_other _ _ (Ne.symm hbm), hM2, ht, List.map_append]; rfl
  · -- no
    try simp only [decide_eq_false_iff_not] at h
    refine ACode.exit ?_
    rw [drop_end cs k h, applyC] at hap
    rw [hap] at hk
    refine ACode.seq ?_
    refine ACode.region [4, 5] rfl fun K1 hK => ?_
    simp -implicitDefEqProofs only [go_sem, ↓reduceIte, Nat.reduceEqDiff, Nat.reduceAdd, Nat.reduceSub, Nat.reduceMul, Nat.reduceLeDiff, reduceCtorEq, Bool.false_eq_true, Nat.reduceLT, aAppend]
    refine hK _ _ ?_ _ (by simp -implicitDefEqProofs only [go_sem, ↓reduceIte, Nat.reduceEqDiff, Nat.reduceAdd, Nat.reduceSub, Nat.reduceMul, Nat.reduceLeDiff, reduceCtorEq, Bool.false_eq_true, Nat.reduceLT]; rfl); clear hK K1
    refine AppSt.done (H := H) 4 (s := 2) (l := out.map eMod) ⟨hle', .inr ⟨b, hb, hA, by rw [List.length_map, hlen]; rfl⟩⟩ rfl ?_
    simp -implicitDefEqProofs only [go_sem, ↓reduceIte, Nat.reduceEqDiff, Nat.reduceAdd, Nat.reduceSub, Nat.reduceMul, Nat.reduceLeDiff, reduceCtorEq, Bool.false_eq_true, Nat.reduceLT, aAppend]
    refine ACode.ret ?_
    exact hk



/-- whetstone/change.Apply: to no modules -/
theorem c23e (cs : List Change) (hcl : cs.length ≤ 1000000) (H : Heap) (K : AV → Heap → Prop)
    (hk : K (.tup [.sl [], int (applyC [] [] cs).2]) H) : ACalls Try.prog 23 [.sl [], .sl (cs.map eChange)] H K := by
  refine ACalls.of_code Try.func23 rfl (by kernel_rfl) rfl (by simp [Try.ntmps23]) ?_
  rw [Try.ntmps23, Try.results23]; simp -implicitDefEqProofs only [go_sem, ↓reduceIte, Nat.reduceEqDiff, Nat.reduceAdd, Nat.reduceSub, Nat.reduceMul, Nat.reduceLeDiff, reduceCtorEq, Bool.false_eq_true, Nat.reduceLT, aAppend]
  refine ACode.seq ?_
  refine ACode.region [0, 1] rfl fun K1 hK => ?_
  simp -implicitDefEqProofs only [go_sem, ↓reduceIte, Nat.reduceEqDiff, Nat.reduceAdd, Nat.reduceSub, Nat.reduceMul, Nat.reduceLeDiff, reduceCtorEq, Bool.false_eq_true, Nat.reduceLT, aAppend]
  refine hK _ _ ?_ _ (by simp -implicitDefEqProofs only [go_sem, ↓reduceIte, Nat.reduceEqDiff, Nat.reduceAdd, Nat.reduceSub, Nat.reduceMul, Nat.reduceLeDiff, reduceCtorEq, Bool.false_eq_true, Nat.reduceLT]; rfl); clear hK K1
  refine ACode.seq ?_
  refine ACode.region [1, 6] rfl fun K1 hK => ?_
  simp -implicitDefEqProofs only [go_sem, ↓reduceIte, Nat.reduceEqDiff, Nat.reduceAdd, Nat.reduceSub, Nat.reduceMul, Nat.reduceLeDiff, reduceCtorEq, Bool.false_eq_true, Nat.reduceLT, aAppend]
  refine c30s [] (by simp) _ _ ?_
  simp -implicitDefEqProofs only [go_sem, ↓reduceIte, Nat.reduceEqDiff, Nat.reduceAdd, Nat.reduceSub, Nat.reduceMul, Nat.reduceLeDiff, reduceCtorEq, Bool.false_eq_true, Nat.reduceLT, aAppend]
  refine hK _ _ ?_ _ (by simp -implicitDefEqProofs only [go_sem, ↓reduceIte, Nat.reduceEqDiff, Nat.reduceAdd, Nat.reduceSub, Nat.reduceMul, Nat.reduceLeDiff, reduceCtorEq, Bool.false_eq_true, Nat.reduceLT]; rfl); clear hK K1
  refine ACode.seq ?_
  refine ACode.region [1, 6, 7] rfl fun K1 hK => ?_
  simp -implicitDefEqProofs only [go_sem, ↓reduceIte, Nat.reduceEqDiff, Nat.reduceAdd, Nat.reduceSub, Nat.reduceMul, Nat.reduceLeDiff, reduceCtorEq, Bool.false_eq_true, Nat.reduceLT, aAppend]
  intro mb hmb
  refine hK _ _ ?_ _ (by simp -implicitDefEqProofs only [go_sem, ↓reduceIte, Nat.reduceEqDiff, Nat.reduceAdd, Nat.reduceSub, Nat.reduceMul, Nat.reduceLeDiff, reduceCtorEq, Bool.false_eq_true, Nat.reduceLT]; rfl); clear hK K1
  refine ACode.seq ?_
  refine ACode.seq ?_
  refine ACode.region [6, 7, 16, 17, 18] rfl fun K1 hK => ?_
  simp -implicitDefEqProofs only [go_sem, ↓reduceIte, Nat.reduceEqDiff, Nat.reduceAdd, Nat.reduceSub, Nat.reduceMul, Nat.reduceLeDiff, reduceCtorEq, Bool.false_eq_true, Nat.reduceLT, aAppend]
  refine hK _ _ ?_ _ (by simp -implicitDefEqProofs only [go_sem, ↓reduceIte, Nat.reduceEqDiff, Nat.reduceAdd, Nat.reduceSub, Nat.reduceMul, Nat.reduceLeDiff, reduceCtorEq, Bool.false_eq_true, Nat.reduceLT]; rfl); clear hK K1
  refine ACode.block ?_
  refine ACode.loop (fun m ρ H' => H' = H.upd mb (.map []) ∧ ρ = [(6, .sl []), (7, .mp mb), (16, .sl (cs.map eChange)), (17, int cs.length), (18, int 0)]) 0 ⟨rfl, rfl⟩ ?_
  rintro m ρ H' ⟨rfl, rfl⟩
  simp -implicitDefEqProofs only [go_sem, ↓reduceIte, Nat.reduceEqDiff, Nat.reduceAdd, Nat.reduceSub, Nat.reduceMul, Nat.reduceLeDiff, reduceCtorEq, Bool.false_eq_true, Nat.reduceLT, aAppend]
  refine ACode.seq ?_
  refine ACode.region [6, 7, 16, 17, 18, 19] rfl fun K1 hK => ?_
  simp -implicitDefEqProofs only [go_sem, ↓reduceIte, Nat.reduceEqDiff, Nat.reduceAdd, Nat.reduceSub, Nat.reduceMul, Nat.reduceLeDiff, reduceCtorEq, Bool.false_eq_true, Nat.reduceLT, aAppend]
  refine hK _ _ ?_ _ (by simp -implicitDefEqProofs only [go_sem, ↓reduceIte, Nat.reduceEqDiff, Nat.reduceAdd, Nat.reduceSub, Nat.reduceMul, Nat.reduceLeDiff, reduceCtorEq, Bool.false_eq_true, Nat.reduceLT]; rfl); clear hK K1
  refine ACode.seq ?_
  refine ACode.cond rfl (fun h => ?_) (fun h => ?_)
  · -- yes
    try simp only [decide_eq_true_eq] at h
    obtain ⟨c, hx, hd, hm, ht⟩ := at_drop cs 0 (by omega)
    rw [List.drop_zero] at hd
    refine ACode.skip ?_
    refine ACode.seq ?_
    refine ACode.block ?_
    refine ACode.seq ?_
    refine ACode.region [6, 7, 9, 16, 17, 18] rfl fun K1 hK => ?_
    simp -implicitDefEqProofs only [go_sem, ↓reduceIte, Nat.reduceEqDiff, Nat.reduceAdd, Nat.reduceSub, Nat.reduceMul, Nat.reduceLeDiff, reduceCtorEq, Bool.false_eq_true, Nat.reduceLT, aAppend, hx, eChange]
    intro p hp
    refine hK _ _ ?_ _ (by simp -implicitDefEqProofs only [go_sem, ↓reduceIte, Nat.reduceEqDiff, Nat.reduceAdd, Nat.reduceSub, Nat.reduceMul, Nat.reduceLeDiff, reduceCtorEq, Bool.false_eq_true, Nat.reduceLT]; rfl); clear hK K1
    refine ACode.freeze1 p 9 (Heap.upd_same _ _ _) ?_
    simp -implicitDefEqProofs only [go_sem, ↓reduceIte, Nat.reduceEqDiff, Nat.reduceAdd, Nat.reduceSub, Nat.reduceMul, Nat.reduceLeDiff, reduceCtorEq, Bool.false_eq_true, Nat.reduceLT, aAppend, Heap.erase_upd_same _ p _ hp]
    refine ACode.seq ?_
    refine ACode.region [6, 7, 9, 10, 16, 17, 18] rfl fun K1 hK => ?_
    simp -implicitDefEqProofs only [go_sem, ↓reduceIte, Nat.reduceEqDiff, Nat.reduceAdd, Nat.reduceSub, Nat.reduceMul, Nat.reduceLeDiff, reduceCtorEq, Bool.false_eq_true, Nat.reduceLT, aAppend]
    refine c25 [] c.Module (by simp) _ _ ?_
    simp -implicitDefEqProofs only [go_sem, ↓reduceIte, Nat.reduceEqDiff, Nat.reduceAdd, Nat.reduceSub, Nat.reduceMul, Nat.reduceLeDiff, reduceCtorEq, Bool.false_eq_true, Nat.reduceLT, aAppend]
    refine hK _ _ ?_ _ (by simp -implicitDefEqProofs only [go_sem, ↓reduceIte, Nat.reduceEqDiff, Nat.reduceAdd, Nat.reduceSub, Nat.reduceMul, Nat.reduceLeDiff, reduceCtorEq, Bool.false_eq_true, Nat.reduceLT]; rfl); clear hK K1
    refine ACode.seq ?_
    refine ACode.block ?_
    refine ACode.seq ?_
    refine ACode.region [6, 7, 9, 10, 16, 17, 18, 26] rfl fun K1 hK => ?_
    simp -implicitDefEqProofs only [go_sem, ↓reduceIte, Nat.reduceEqDiff, Nat.reduceAdd, Nat.reduceSub, Nat.reduceMul, Nat.reduceLeDiff, reduceCtorEq, Bool.false_eq_true, Nat.reduceLT, aAppend]
    refine hK _ _ ?_ _ (by simp -implicitDefEqProofs only [go_sem, ↓reduceIte, Nat.reduceEqDiff, Nat.reduceAdd, Nat.reduceSub, Nat.reduceMul, Nat.reduceLeDiff, reduceCtorEq, Bool.false_eq_true, Nat.reduceLT]; rfl); clear hK K1
    refine ACode.cond rfl (fun h => ?_) (fun h => ?_)
    · -- yes
      try simp only [decide_eq_true_eq] at h
      refine ACode.seq ?_
      refine ACode.region [4, 5] rfl fun K1 hK => ?_
      simp -implicitDefEqProofs only [go_sem, ↓reduceIte, Nat.reduceEqDiff, Nat.reduceAdd, Nat.reduceSub, Nat.reduceMul, Nat.reduceLeDiff, reduceCtorEq, Bool.false_eq_true, Nat.reduceLT, aAppend]
      refine hK _ _ ?_ _ (by simp -implicitDefEqProofs only [go_sem, ↓reduceIte, Nat.reduceEqDiff, Nat.reduceAdd, Nat.reduceSub, Nat.reduceMul, Nat.reduceLeDiff, reduceCtorEq, Bool.false_eq_true, Nat.reduceLT]; rfl); clear hK K1
      refine ACode.drop (H' := H) ?_ (Heap.le_upd hmb)
      refine ACode.soft 4 ?_
      simp -implicitDefEqProofs only [go_sem, ↓reduceIte, Nat.reduceEqDiff, Nat.reduceAdd, Nat.reduceSub, Nat.reduceMul, Nat.reduceLeDiff, reduceCtorEq, Bool.false_eq_true, Nat.reduceLT, aAppend, AV.soft]
      refine ACode.ret ?_
      rw [hd, applyC, if_pos (by simp [findMod, findFrom])] at hk
      exact hk
    · -- no
      exact absurd h (by simp [findMod, findFrom])
  · -- no
    try simp only [decide_eq_false_iff_not] at h
    refine ACode.exit ?_
    have e : cs = [] := by
      cases cs with
      | nil => rfl
      | cons c r => simp at h
    subst e
    refine ACode.seq ?_
    refine ACode.region [4, 5] rfl fun K1 hK => ?_
    simp -implicitDefEqProofs only [go_sem, ↓reduceIte, Nat.reduceEqDiff, Nat.reduceAdd, Nat.reduceSub, Nat.reduceMul, Nat.reduceLeDiff, reduceCtorEq, Bool.false_eq_true, Nat.reduceLT, aAppend]
    refine hK _ _ ?_ _ (by simp -implicitDefEqProofs only [go_sem, ↓reduceIte, Nat.reduceEqDiff, Nat.reduceAdd, Nat.reduceSub, Nat.reduceMul, Nat.reduceLeDiff, reduceCtorEq, Bool.false_eq_true, Nat.reduceLT]; rfl); clear hK K1
    refine ACode.drop (H' := H) ?_ (Heap.le_upd hmb)
    refine ACode.soft 4 ?_
    simp -implicitDefEqProofs only [go_sem, ↓reduceIte, Nat.reduceEqDiff, Nat.reduceAdd, Nat.reduceSub, Nat.reduceMul, Nat.reduceLeDiff, reduceCtorEq, Bool.false_eq_true, Nat.reduceLT, aAppend, AV.soft]
    refine ACode.ret ?_
    exact hk


theorem applyC_nil (cs : List Change) : (applyC [] [] cs).1 = [] := by
  cases cs with
  | nil => rfl
  | cons c r => rw [applyC, if_pos (by simp [findMod, findFrom])]

theorem c23 (h34 : Edit34) (l : List Mod) (cs : List Change) (hl : l.length ≤ 1000000) (hcl : cs.length ≤ 1000000) (hce : ∀ c ∈ cs, c.Edits.length ≤ 1000000) (hroom : Roomy l cs) (H : Heap) (K : AV → Heap → Prop)
    (hk : K (.tup [.sl ((applyC l [] cs).1.map eMod), int (applyC l [] cs).2]) H) : ACalls Try.prog 23 [.sl (l.map eMod), .sl (cs.map eChange)] H K := by
  by_cases h0 : l = []
  · subst h0; rw [applyC_nil] at hk; exact c23e cs hcl H K hk
  · exact c23p h34 l cs h0 hl hcl hce hroom H K hk

theorem c28 (l : List Mod) (cs : List Change) (hl : l.length ≤ 1000000) (hcl : cs.length ≤ 1000000) (hce : ∀ c ∈ cs, c.Edits.length ≤ 1000000) (hroom : Roomy l cs) (H : Heap) (K : AV → Heap → Prop)
    (hk : K (.tup [.sl ((applyC l [] cs).1.map eMod), int (applyC l [] cs).2]) H) : ACalls Try.prog 28 [.sl (l.map eMod), .sl (cs.map eChange)] H K := by
  by_cases h0 : l = []
  · subst h0; rw [applyC_nil] at hk; exact c28e cs hcl H K hk
  · exact c28p l cs h0 hl hcl hce hroom H K hk

end Go.Flow

