/-
  The program's history: do. Over a contract of edit.Apply.
-/
import Derived.Test.YtlcggoafbafldaaHistP
import Derived.Test.YtlcggoafbafldaaHistQ
set_option linter.unusedVariables false
set_option linter.unusedSimpArgs false
set_option maxRecDepth 20000
namespace Go.Flow
open Go Go.Proofs

/-- each change names a module, and may be done to its text -/
def Fit (now : List Mod) (cs : List Change) : Prop := ∀ c ∈ cs, ∃ (i : Nat) (m : Mod), findMod now c.Module = (i : Int) ∧ now[i]? = some m ∧ m.Text.length ≤ 140737488355328 ∧ Sound c.Edits m.Text.length = 0
def undoOf (now : List Mod) (cs : List Change) : List Change := cs.map fun c => ⟨c.Module, invFrom (textAt now (findMod now c.Module).toNat) 0 c.Edits⟩

/-- whetstone/history.History.Do -/
theorem c9 (h34 : Edit34) (N : Nat) (hN : N ≤ 100000) (b : Nat) (now : List Mod) (past : List Step) (p q : AV) (note : List UInt8) (cs : List Change) (hq : q = .v (.slice none 0 0) ∨ ∃ d i j, q = .slr d 3 i j) (H : Heap)
    (hb : H b = some (.box (.agg [.sl (now.map eMod), p, q]))) (hp : Stk eStep 3 N H past p) (hpb : ¬ blk p b)
    (hl : now.length ≤ 1000000) (hcl : cs.length ≤ 1000000) (hce : ∀ c ∈ cs, c.Edits.length ≤ 1000000) (hct : ∀ c ∈ cs, ∀ x ∈ c.Edits, x.Text.length ≤ 140737488355328) (hroom : Roomy now cs) (hfit : (applyC now [] cs).2 = 0 → Fit now cs) (K : AV → Heap → Prop)
    (hk0 : (applyC now [] cs).2 ≠ 0 → K (int (applyC now [] cs).2) H)
    (hk : (applyC now [] cs).2 = 0 → ∀ x' H', H' b = some (.box (.agg [.sl ((applyC now [] cs).1.map eMod), x', .v (.slice none 0 0)])) → Stk eStep 3 (N + 1) H' (if 100 < past.length + 1 then (past ++ [(⟨note, cs, undoOf now cs⟩ : Step)]).tail else past ++ [⟨note, cs, undoOf now cs⟩]) x' → (∀ d, blk x' d → blk p d ∨ H d = none) → (∀ d r, H d = some r → d ≠ b → ¬ blk p d → H' d = some r) → K (int 0) H') :
    ACalls Try.prog 9 [.bp b 0 [], str note, .sl (cs.map eChange)] H K := by
  have hqs : q.size = 1 := by rcases hq with rfl | ⟨d, i, j, rfl⟩ <;> rfl
  have hps : p.size = 1 := by rcases hp with ⟨-, rfl⟩ | ⟨qb, qi, qrow, -, rfl, -⟩ <;> rfl
  refine ACalls.of_code Try.func9 rfl (by kernel_rfl) rfl (by simp [Try.ntmps9]) ?_
  rw [Try.ntmps9, Try.results9]; simp -implicitDefEqProofs only [go_sem, ↓reduceIte, Nat.reduceEqDiff, Nat.reduceAdd, Nat.reduceSub, Nat.reduceMul, Nat.reduceLeDiff, reduceCtorEq, Bool.false_eq_true, Nat.reduceLT, aAppend]
  refine ACode.seq ?_
  refine ACode.region [0, 1, 2] rfl fun K1 hK => ?_
  simp -implicitDefEqProofs only [go_sem, ↓reduceIte, Nat.reduceEqDiff, Nat.reduceAdd, Nat.reduceSub, Nat.reduceMul, Nat.reduceLeDiff, reduceCtorEq, Bool.false_eq_true, Nat.reduceLT, aAppend]
  refine hK _ _ ?_ _ (by simp -implicitDefEqProofs only [go_sem, ↓reduceIte, Nat.reduceEqDiff, Nat.reduceAdd, Nat.reduceSub, Nat.reduceMul, Nat.reduceLeDiff, reduceCtorEq, Bool.false_eq_true, Nat.reduceLT]; rfl); clear hK K1
  refine ACode.seq ?_
  refine ACode.seq ?_
  refine ACode.region [0, 1, 2, 15] rfl fun K1 hK => ?_
  simp -implicitDefEqProofs only [go_sem, ↓reduceIte, Nat.reduceEqDiff, Nat.reduceAdd, Nat.reduceSub, Nat.reduceMul, Nat.reduceLeDiff, reduceCtorEq, Bool.false_eq_true, Nat.reduceLT, aAppend]
  refine hK _ _ ?_ _ (by simp -implicitDefEqProofs only [go_sem, ↓reduceIte, Nat.reduceEqDiff, Nat.reduceAdd, Nat.reduceSub, Nat.reduceMul, Nat.reduceLeDiff, reduceCtorEq, Bool.false_eq_true, Nat.reduceLT]; rfl); clear hK K1
  refine ACode.cond rfl (fun h => ?_) (fun h => ?_)
  · -- yes
    cases h
  · -- no
    try simp only [decide_eq_false_iff_not] at h
    refine ACode.skip ?_
    refine ACode.seq ?_
    refine ACode.region [0, 1, 2, 7, 8] rfl fun K1 hK => ?_
    simp -implicitDefEqProofs only [go_sem, ↓reduceIte, Nat.reduceEqDiff, Nat.reduceAdd, Nat.reduceSub, Nat.reduceMul, Nat.reduceLeDiff, reduceCtorEq, Bool.false_eq_true, Nat.reduceLT, aAppend, hb, hqs, hps]
    refine c23 h34 now cs hl hcl hce hroom _ _ ?_
    simp -implicitDefEqProofs only [go_sem, ↓reduceIte, Nat.reduceEqDiff, Nat.reduceAdd, Nat.reduceSub, Nat.reduceMul, Nat.reduceLeDiff, reduceCtorEq, Bool.false_eq_true, Nat.reduceLT, aAppend]
    refine hK _ _ ?_ _ (by simp -implicitDefEqProofs only [go_sem, ↓reduceIte, Nat.reduceEqDiff, Nat.reduceAdd, Nat.reduceSub, Nat.reduceMul, Nat.reduceLeDiff, reduceCtorEq, Bool.false_eq_true, Nat.reduceLT]; rfl); clear hK K1
    refine ACode.seq ?_
    refine ACode.seq ?_
    refine ACode.region [0, 1, 2, 7, 8, 26] rfl fun K1 hK => ?_
    simp -implicitDefEqProofs only [go_sem, ↓reduceIte, Nat.reduceEqDiff, Nat.reduceAdd, Nat.reduceSub, Nat.reduceMul, Nat.reduceLeDiff, reduceCtorEq, Bool.false_eq_true, Nat.reduceLT, aAppend]
    refine hK _ _ ?_ _ (by simp -implicitDefEqProofs only [go_sem, ↓reduceIte, Nat.reduceEqDiff, Nat.reduceAdd, Nat.reduceSub, Nat.reduceMul, Nat.reduceLeDiff, reduceCtorEq, Bool.false_eq_true, Nat.reduceLT]; rfl); clear hK K1
    refine ACode.cond rfl (fun h => ?_) (fun h => ?_)
    · -- yes
      try simp only [decide_eq_true_eq] at h
      have he : (applyC now [] cs).2 ≠ 0 := by simpa using h
      refine ACode.seq ?_
      refine ACode.region [6] rfl fun K1 hK => ?_
      simp -implicitDefEqProofs only [go_sem, ↓reduceIte, Nat.reduceEqDiff, Nat.reduceAdd, Nat.reduceSub, Nat.reduceMul, Nat.reduceLeDiff, reduceCtorEq, Bool.false_eq_true, Nat.reduceLT, aAppend]
      refine hK _ _ ?_ _ (by simp -implicitDefEqProofs only [go_sem, ↓reduceIte, Nat.reduceEqDiff, Nat.reduceAdd, Nat.reduceSub, Nat.reduceMul, Nat.reduceLeDiff, reduceCtorEq, Bool.false_eq_true, Nat.reduceLT]; rfl); clear hK K1
      refine ACode.ret ?_
      exact hk0 he
    · -- no
      try simp only [decide_eq_false_iff_not] at h
      have he : (applyC now [] cs).2 = 0 := by simpa using h
      have hf := hfit he
      have hk1 := hk he
      clear hk0 hk hfit
      refine ACode.skip ?_
      refine ACode.seq ?_
      refine ACode.region [0, 1, 2, 7, 9] rfl fun K1 hK => ?_
      simp -implicitDefEqProofs only [go_sem, ↓reduceIte, Nat.reduceEqDiff, Nat.reduceAdd, Nat.reduceSub, Nat.reduceMul, Nat.reduceLeDiff, reduceCtorEq, Bool.false_eq_true, Nat.reduceLT, aAppend]
      refine hK _ _ ?_ _ (by simp -implicitDefEqProofs only [go_sem, ↓reduceIte, Nat.reduceEqDiff, Nat.reduceAdd, Nat.reduceSub, Nat.reduceMul, Nat.reduceLeDiff, reduceCtorEq, Bool.false_eq_true, Nat.reduceLT]; rfl); clear hK K1
      refine ACode.seq ?_
      refine ACode.seq ?_
      refine ACode.region [0, 1, 2, 7, 9, 28, 29, 30] rfl fun K1 hK => ?_
      simp -implicitDefEqProofs only [go_sem, ↓reduceIte, Nat.reduceEqDiff, Nat.reduceAdd, Nat.reduceSub, Nat.reduceMul, Nat.reduceLeDiff, reduceCtorEq, Bool.false_eq_true, Nat.reduceLT, aAppend]
      refine hK _ _ ?_ _ (by simp -implicitDefEqProofs only [go_sem, ↓reduceIte, Nat.reduceEqDiff, Nat.reduceAdd, Nat.reduceSub, Nat.reduceMul, Nat.reduceLeDiff, reduceCtorEq, Bool.false_eq_true, Nat.reduceLT]; rfl); clear hK K1
      refine ACode.block ?_
      refine ACode.loop (fun m ρ H' => ∃ (k : Nat) (x : AV), m = cs.length - k ∧ k ≤ cs.length ∧ AppSt H 2 ((undoOf now (cs.take k)).map eChange) x H' ∧ ρ = [(0, .bp b 0 []), (1, str note), (2, .sl (cs.map eChange)), (7, .sl ((applyC now [] cs).1.map eMod)), (9, x), (28, .sl (cs.map eChange)), (29, int cs.length), (30, int k)]) cs.length ⟨0, _, rfl, Nat.zero_le _, AppSt.nil, rfl⟩ ?_
      rintro m ρ H' ⟨k, x, rfl, hkl, hst, rfl⟩
      simp -implicitDefEqProofs only [go_sem, ↓reduceIte, Nat.reduceEqDiff, Nat.reduceAdd, Nat.reduceSub, Nat.reduceMul, Nat.reduceLeDiff, reduceCtorEq, Bool.false_eq_true, Nat.reduceLT, aAppend]
      refine ACode.seq ?_
      refine ACode.region [0, 1, 2, 7, 9, 28, 29, 30, 31] rfl fun K1 hK => ?_
      simp -implicitDefEqProofs only [go_sem, ↓reduceIte, Nat.reduceEqDiff, Nat.reduceAdd, Nat.reduceSub, Nat.reduceMul, Nat.reduceLeDiff, reduceCtorEq, Bool.false_eq_true, Nat.reduceLT, aAppend]
      refine hK _ _ ?_ _ (by simp -implicitDefEqProofs only [go_sem, ↓reduceIte, Nat.reduceEqDiff, Nat.reduceAdd, Nat.reduceSub, Nat.reduceMul, Nat.reduceLeDiff, reduceCtorEq, Bool.false_eq_true, Nat.reduceLT]; rfl); clear hK K1
      refine ACode.seq ?_
      refine ACode.cond rfl (fun h => ?_) (fun h => ?_)
      · -- yes
        try simp only [decide_eq_true_eq] at h
        obtain ⟨c, hx, hd, hm, htk⟩ := at_drop cs k (by omega)
        obtain ⟨i, md, hi, hmd, hmt, hso⟩ := hf c hm
        have hb1 := hst.1 _ _ hb
        refine ACode.skip ?_
        refine ACode.seq ?_
        refine ACode.block ?_
        refine ACode.seq ?_
        refine ACode.region [0, 1, 2, 7, 9, 11, 28, 29, 30] rfl fun K1 hK => ?_
        simp -implicitDefEqProofs only [go_sem, ↓reduceIte, Nat.reduceEqDiff, Nat.reduceAdd, Nat.reduceSub, Nat.reduceMul, Nat.reduceLeDiff, reduceCtorEq, Bool.false_eq_true, Nat.reduceLT, aAppend, hx, eChange]
        intro u hu
        refine hK _ _ ?_ _ (by simp -implicitDefEqProofs only [go_sem, ↓reduceIte, Nat.reduceEqDiff, Nat.reduceAdd, Nat.reduceSub, Nat.reduceMul, Nat.reduceLeDiff, reduceCtorEq, Bool.false_eq_true, Nat.reduceLT]; rfl); clear hK K1
        refine ACode.freeze1 u 11 (Heap.upd_same _ _ _) ?_
        simp -implicitDefEqProofs only [go_sem, ↓reduceIte, Nat.reduceEqDiff, Nat.reduceAdd, Nat.reduceSub, Nat.reduceMul, Nat.reduceLeDiff, reduceCtorEq, Bool.false_eq_true, Nat.reduceLT, aAppend, Heap.erase_upd_same _ u _ hu]
        refine ACode.seq ?_
        refine ACode.region_draw [0, 1, 2, 7, 9, 11, 12, 13, 28, 29, 30] [(0, 0), (1, 0), (2, 0), (4, 0), (5, 0), (6, 0), (8, 0), (14, 0), (7, 1), (9, 1), (10, 3), (3, 1), (11, 0), (12, 0), (13, 1), (15, 1), (16, 2), (17, 0), (18, 0), (19, 0), (20, 0), (21, 0)] (by kernel_rfl) (by kernel_rfl) rfl (by kernel_rfl) fun K1 hK => ?_
        simp -implicitDefEqProofs only [go_sem, ↓reduceIte, Nat.reduceEqDiff, Nat.reduceAdd, Nat.reduceSub, Nat.reduceMul, Nat.reduceLeDiff, reduceCtorEq, Bool.false_eq_true, Nat.reduceLT, aAppend, hb1, hqs, hps]
        refine ⟨int i, fun G hG K' hk' => c25 now c.Module (by omega) G K' (by rw [hi]; exact hk'), ?_⟩
        simp -implicitDefEqProofs only [go_sem, ↓reduceIte, Nat.reduceEqDiff, Nat.reduceAdd, Nat.reduceSub, Nat.reduceMul, Nat.reduceLeDiff, reduceCtorEq, Bool.false_eq_true, Nat.reduceLT, aAppend, bHold_eq, hb1, hqs, hps, hmd, eMod]
        refine c24 md.Text c.Edits hmt (by have := hce c hm; omega) (hct c hm) _ _ ?_
        rw [Invert, if_pos hso]
        simp -implicitDefEqProofs only [go_sem, ↓reduceIte, Nat.reduceEqDiff, Nat.reduceAdd, Nat.reduceSub, Nat.reduceMul, Nat.reduceLeDiff, reduceCtorEq, Bool.false_eq_true, Nat.reduceLT, aAppend]
        refine hK _ _ ?_ _ (by simp -implicitDefEqProofs only [go_sem, ↓reduceIte, Nat.reduceEqDiff, Nat.reduceAdd, Nat.reduceSub, Nat.reduceMul, Nat.reduceLeDiff, reduceCtorEq, Bool.false_eq_true, Nat.reduceLT]; rfl); clear hK K1
        refine ACode.seq ?_
        refine ACode.seq ?_
        refine ACode.region [0, 1, 2, 7, 9, 11, 12, 13, 28, 29, 30, 55] rfl fun K1 hK => ?_
        simp -implicitDefEqProofs only [go_sem, ↓reduceIte, Nat.reduceEqDiff, Nat.reduceAdd, Nat.reduceSub, Nat.reduceMul, Nat.reduceLeDiff, reduceCtorEq, Bool.false_eq_true, Nat.reduceLT, aAppend]
        refine hK _ _ ?_ _ (by simp -implicitDefEqProofs only [go_sem, ↓reduceIte, Nat.reduceEqDiff, Nat.reduceAdd, Nat.reduceSub, Nat.reduceMul, Nat.reduceLeDiff, reduceCtorEq, Bool.false_eq_true, Nat.reduceLT]; rfl); clear hK K1
        refine ACode.cond rfl (fun h => ?_) (fun h => ?_)
        · -- yes
          cases h
        · -- no
          try simp only [decide_eq_false_iff_not] at h
          refine ACode.skip ?_
          refine ACode.region [0, 1, 2, 7, 9, 28, 29, 30] rfl fun K1 hK => ?_
          simp -implicitDefEqProofs only [go_sem, ↓reduceIte, Nat.reduceEqDiff, Nat.reduceAdd, Nat.reduceSub, Nat.reduceMul, Nat.reduceLeDiff, reduceCtorEq, Bool.false_eq_true, Nat.reduceLT, eChange]
          intro q hq2
          refine AppSt.append (hst.le (Heap.le_upd hq2)) el33 ze60 ni33 (by omega) (by omega) (srcOf_one _ _ _ _) (sizesAre_one (by simp [AV.size, AV.sizes])) (by simp [undoOf]; omega) fun x' H2 hst' => ?_
          simp -implicitDefEqProofs only [go_sem, ↓reduceIte, Nat.reduceEqDiff, Nat.reduceAdd, Nat.reduceSub, Nat.reduceMul, Nat.reduceLeDiff, reduceCtorEq, Bool.false_eq_true, Nat.reduceLT, aAppend]
          refine hK _ _ ?_ _ (by simp -implicitDefEqProofs only [go_sem, ↓reduceIte, Nat.reduceEqDiff, Nat.reduceAdd, Nat.reduceSub, Nat.reduceMul, Nat.reduceLeDiff, reduceCtorEq, Bool.false_eq_true, Nat.reduceLT]; rfl); clear hK K1
          refine ACode.region [0, 1, 2, 7, 9, 28, 29, 30] rfl fun K1 hK => ?_
          simp -implicitDefEqProofs only [go_sem, ↓reduceIte, Nat.reduceEqDiff, Nat.reduceAdd, Nat.reduceSub, Nat.reduceMul, Nat.reduceLeDiff, reduceCtorEq, Bool.false_eq_true, Nat.reduceLT, aAppend]
          rw [wrap_i64 (by omega) (by omega)]
          refine hK _ _ ?_ _ (by simp -implicitDefEqProofs only [go_sem, ↓reduceIte, Nat.reduceEqDiff, Nat.reduceAdd, Nat.reduceSub, Nat.reduceMul, Nat.reduceLeDiff, reduceCtorEq, Bool.false_eq_true, Nat.reduceLT]; rfl); clear hK K1
          refine ⟨_, by omega, k + 1, x', rfl, by omega, ?_, by simp <;> rfl⟩
          rw [htk, undoOf, List.map_append, List.map_append]
          simpa [undoOf, eChange, textAt, hi, hmd, str] using hst'
      · -- no
        try simp only [decide_eq_false_iff_not] at h
        refine ACode.exit ?_
        rw [take_end cs k h] at hst
        have hb2 := hst.1 _ _ hb
        refine ACode.seq ?_
        refine AppSt.done 9 hst rfl ?_
        simp -implicitDefEqProofs only [go_sem, ↓reduceIte, Nat.reduceEqDiff, Nat.reduceAdd, Nat.reduceSub, Nat.reduceMul, Nat.reduceLeDiff, reduceCtorEq, Bool.false_eq_true, Nat.reduceLT, aAppend]
        refine ACode.region_cut [0, 1, 2, 9] (fun ρ' H1 => H1 = H.upd b (.box (.agg [.sl ((applyC now [] cs).1.map eMod), p, .v (.slice none 0 0)])) ∧ ρ' = [(0, .bp b 0 []), (1, str note), (2, .sl (cs.map eChange)), (9, .sl ((undoOf now cs).map eChange))]) rfl (fun K1 hK => ?_) ?_
        · rcases hq with rfl | ⟨d, i, j, rfl⟩
          all_goals
            simp -implicitDefEqProofs only [go_sem, ↓reduceIte, Nat.reduceEqDiff, Nat.reduceAdd, Nat.reduceSub, Nat.reduceMul, Nat.reduceLeDiff, reduceCtorEq, Bool.false_eq_true, Nat.reduceLT, aAppend, hb, hps]
            refine hK _ _ ⟨rfl, ?_⟩ _ (by simp -implicitDefEqProofs only [go_sem, ↓reduceIte, Nat.reduceEqDiff, Nat.reduceAdd, Nat.reduceSub, Nat.reduceMul, Nat.reduceLeDiff, reduceCtorEq, Bool.false_eq_true, Nat.reduceLT, aAppend] <;> rfl)
            rfl
        rintro ρ' H1 ⟨rfl, rfl⟩
        have j1 : (H.upd b (.box (.agg [.sl ((applyC now [] cs).1.map eMod), p, .v (.slice none 0 0)]))) b = some (.box (.agg [.sl ((applyC now [] cs).1.map eMod), p, .v (.slice none 0 0)])) := Heap.upd_same _ _ _
        have hp1 : Stk eStep 3 N (H.upd b (.box (.agg [.sl ((applyC now [] cs).1.map eMod), p, .v (.slice none 0 0)]))) past p := by
          rcases hp with h | ⟨qb, qi, qrow, h1, h2, h3⟩
          · exact .inl h
          · exact .inr ⟨qb, qi, qrow, by rw [Heap.upd_other _ _ (fun e => hpb (by subst e; exact ⟨_, _, _, h2⟩))]; exact h1, h2, h3⟩
        have hoth : ∀ d r, H d = some r → d ≠ b → (H.upd b (.box (.agg [.sl ((applyC now [] cs).1.map eMod), p, .v (.slice none 0 0)]))) d = some r := fun d r hd hdb => by rw [Heap.upd_other _ _ hdb]; exact hd
        have hfree : ∀ d, (H.upd b (.box (.agg [.sl ((applyC now [] cs).1.map eMod), p, .v (.slice none 0 0)]))) d = none → H d = none := fun d hd => by
          by_cases e : d = b
          · subst e; rw [j1] at hd; cases hd
          · rwa [Heap.upd_other _ _ e] at hd
        generalize H.upd b (.box (.agg [.sl ((applyC now [] cs).1.map eMod), p, .v (.slice none 0 0)])) = H1 at *
        refine ACode.seq ?_
        refine ACode.draw_cut [0] [(0, 0), (1, 0), (2, 0), (3, 0), (5, 0), (6, 0), (8, 0), (7, 3), (9, 0), (4, 1), (10, 2), (11, 2), (12, 0), (13, 0), (14, 2)] (fun ρ' H' => (∃ (xb xi : Nat) (xrow : List Step), H' b = some (.box (.agg [.sl ((applyC now [] cs).1.map eMod), .slr xb 3 xi (xi + (past.length + 1)), .v (.slice none 0 0)])) ∧ xb ≠ b ∧ H' xb = some (.arr 3 (xrow.map eStep)) ∧ xi + (past.length + 1) ≤ xrow.length ∧ (xrow.drop xi).take (past.length + 1) = past ++ [(⟨note, cs, undoOf now cs⟩ : Step)] ∧ xrow.length ≤ N + 1 ∧ (blk p xb ∨ H1 xb = none) ∧ (∀ d r, H d = some r → d ≠ b → ¬ blk p d → H' d = some r)) ∧ ρ' = [(0, .bp b 0 [])]) (by kernel_rfl) (by kernel_rfl) rfl (by kernel_rfl) (fun K1 hK => ?_) ?_
        · have hp2 := hp1
          have fin : ∀ x' H2, Stk eStep 3 (N + 1) H2 (past ++ [(⟨note, cs, undoOf now cs⟩ : Step)]) x' → (∀ d, blk x' d → blk p d ∨ H1 d = none) → (∀ d r, H1 d = some r → ¬ blk p d → H2 d = some r) →
              ∃ (xb xi : Nat) (xrow : List Step), x' = .slr xb 3 xi (xi + (past.length + 1)) ∧ (H2.upd b (.box (.agg [.sl ((applyC now [] cs).1.map eMod), .slr xb 3 xi (xi + (past.length + 1)), .v (.slice none 0 0)]))) b = some (.box (.agg [.sl ((applyC now [] cs).1.map eMod), .slr xb 3 xi (xi + (past.length + 1)), .v (.slice none 0 0)])) ∧ xb ≠ b ∧ (H2.upd b (.box (.agg [.sl ((applyC now [] cs).1.map eMod), .slr xb 3 xi (xi + (past.length + 1)), .v (.slice none 0 0)]))) xb = some (.arr 3 (xrow.map eStep)) ∧ xi + (past.length + 1) ≤ xrow.length ∧ (xrow.drop xi).take (past.length + 1) = past ++ [(⟨note, cs, undoOf now cs⟩ : Step)] ∧ xrow.length ≤ N + 1 ∧ (blk p xb ∨ H1 xb = none) ∧
                (∀ d r, H d = some r → d ≠ b → ¬ blk p d → (H2.upd b (.box (.agg [.sl ((applyC now [] cs).1.map eMod), .slr xb 3 xi (xi + (past.length + 1)), .v (.slice none 0 0)]))) d = some r) := fun x' H2 s1 s2 s3 => by
            rcases s1 with ⟨h, -⟩ | ⟨xb, xi, xrow, g1, g0, g2, g3, g4⟩
            · simp at h
            · rw [List.length_append, List.length_singleton] at g0 g2 g3
              have hne : xb ≠ b := fun e => by
                subst e
                rcases s2 xb ⟨_, _, _, g0⟩ with h | h
                · exact hpb h
                · rw [j1] at h; cases h
              exact ⟨xb, xi, xrow, g0, Heap.upd_same _ _ _, hne, by rw [Heap.upd_other _ _ hne]; exact g1, g2, g3, g4, s2 xb ⟨_, _, _, g0⟩, fun d r hd hdb hnp => by rw [Heap.upd_other _ _ hdb]; exact s3 d r (hoth d r hd hdb) hnp⟩
          rcases hp2 with ⟨-, rfl⟩ | ⟨pb, pi, prow, -, rfl, -⟩
          all_goals
            simp -implicitDefEqProofs only [go_sem, ↓reduceIte, Nat.reduceEqDiff, Nat.reduceAdd, Nat.reduceSub, Nat.reduceMul, Nat.reduceLeDiff, reduceCtorEq, Bool.false_eq_true, Nat.reduceLT, aAppend, j1]
            refine ⟨.sl (cs.map eChange), fun G hG K' hk' => c26 cs (by omega) (fun c hc => by have := hce c hc; omega) G K' hk', ?_⟩
            simp -implicitDefEqProofs only [go_sem, ↓reduceIte, Nat.reduceEqDiff, Nat.reduceAdd, Nat.reduceSub, Nat.reduceMul, Nat.reduceLeDiff, reduceCtorEq, Bool.false_eq_true, Nat.reduceLT, bHold_eq, j1]
            intro u hu
            refine Stk.push hp1 (⟨note, cs, undoOf now cs⟩ : Step) u el62 ze74 ni62 (by omega) (by omega) (eStep_size _) hu (by omega) fun x' H2 s1 s2 s3 => ?_
            have hb3 := s3 b _ j1 hpb
            obtain ⟨xb, xi, xrow, rfl, f1, f2, f3, f4⟩ := fin x' H2 s1 s2 s3
            simp -implicitDefEqProofs only [go_sem, ↓reduceIte, Nat.reduceEqDiff, Nat.reduceAdd, Nat.reduceSub, Nat.reduceMul, Nat.reduceLeDiff, reduceCtorEq, Bool.false_eq_true, Nat.reduceLT, aAppend, hb3]
            refine hK _ _ ⟨⟨xb, xi, xrow, f1, f2, f3, f4⟩, ?_⟩ _ (by simp -implicitDefEqProofs only [go_sem, ↓reduceIte, Nat.reduceEqDiff, Nat.reduceAdd, Nat.reduceSub, Nat.reduceMul, Nat.reduceLeDiff, reduceCtorEq, Bool.false_eq_true, Nat.reduceLT, aAppend] <;> rfl)
            rfl
        rintro ρ' H2 ⟨⟨xb, xi, xrow, k1, k2, k3, k4, k5, k6, k7, k8⟩, rfl⟩
        have e1 : ((xi + (past.length + 1) - xi : Nat) : Int) = ((past.length + 1 : Nat) : Int) := by congr 1; omega
        have k7' : ∀ d, d = xb → blk p d ∨ H d = none := fun d e => e ▸ k7.imp id (hfree xb)
        refine ACode.seq ?_
        refine ACode.seq ?_
        refine ACode.region [0, 91] rfl fun K1 hK => ?_
        simp -implicitDefEqProofs only [go_sem, ↓reduceIte, Nat.reduceEqDiff, Nat.reduceAdd, Nat.reduceSub, Nat.reduceMul, Nat.reduceLeDiff, reduceCtorEq, Bool.false_eq_true, Nat.reduceLT, aAppend, k1]
        rw [e1]
        refine hK _ _ ?_ _ (by simp -implicitDefEqProofs only [go_sem, ↓reduceIte, Nat.reduceEqDiff, Nat.reduceAdd, Nat.reduceSub, Nat.reduceMul, Nat.reduceLeDiff, reduceCtorEq, Bool.false_eq_true, Nat.reduceLT]; rfl); clear hK K1
        refine ACode.cond rfl (fun h => ?_) (fun h => ?_)
        · -- yes
          try simp only [decide_eq_true_eq] at h
          have hlt : 100 < past.length + 1 := by omega
          rw [if_pos hlt] at hk1
          have hne : past ++ [(⟨note, cs, undoOf now cs⟩ : Step)] = past.head (List.ne_nil_of_length_pos (by omega)) :: (past ++ [(⟨note, cs, undoOf now cs⟩ : Step)]).tail := by
            cases past with
            | nil => simp at hlt
            | cons p0 pr => rfl
          have hlen : (past ++ [(⟨note, cs, undoOf now cs⟩ : Step)]).tail.length = past.length := by simp
          refine ACode.region [] rfl fun K1 hK => ?_
          simp -implicitDefEqProofs only [go_sem, ↓reduceIte, Nat.reduceEqDiff, Nat.reduceAdd, Nat.reduceSub, Nat.reduceMul, Nat.reduceLeDiff, reduceCtorEq, Bool.false_eq_true, Nat.reduceLT, k1]
          have h27 := c27 xb xi xrow (past ++ [(⟨note, cs, undoOf now cs⟩ : Step)]).tail (past.head (List.ne_nil_of_length_pos (by omega))) (by rw [hlen, k5]; exact hne) (by rw [hlen]; exact k4) (by omega) H2 k3
          rw [hlen] at h27
          refine h27 _ ?_
          simp -implicitDefEqProofs only [go_sem, ↓reduceIte, Nat.reduceEqDiff, Nat.reduceAdd, Nat.reduceSub, Nat.reduceMul, Nat.reduceLeDiff, reduceCtorEq, Bool.false_eq_true, Nat.reduceLT, aAppend, Heap.upd_other _ _ (Ne.symm k2), k1]
          refine hK _ _ ?_ _ (by simp -implicitDefEqProofs only [go_sem, ↓reduceIte, Nat.reduceEqDiff, Nat.reduceAdd, Nat.reduceSub, Nat.reduceMul, Nat.reduceLeDiff, reduceCtorEq, Bool.false_eq_true, Nat.reduceLT]; rfl); clear hK K1
          refine ACode.seq ?_
          refine ACode.region [6] rfl fun K1 hK => ?_
          simp -implicitDefEqProofs only [go_sem, ↓reduceIte, Nat.reduceEqDiff, Nat.reduceAdd, Nat.reduceSub, Nat.reduceMul, Nat.reduceLeDiff, reduceCtorEq, Bool.false_eq_true, Nat.reduceLT, aAppend]
          refine hK _ _ ?_ _ (by simp -implicitDefEqProofs only [go_sem, ↓reduceIte, Nat.reduceEqDiff, Nat.reduceAdd, Nat.reduceSub, Nat.reduceMul, Nat.reduceLeDiff, reduceCtorEq, Bool.false_eq_true, Nat.reduceLT]; rfl); clear hK K1
          refine ACode.ret ?_
          refine hk1 _ _ (Heap.upd_same _ _ _) (.inr ⟨xb, xi, shifted xrow (past ++ [(⟨note, cs, undoOf now cs⟩ : Step)]).tail xi, by rw [Heap.upd_other _ _ k2, Heap.upd_same], by rw [hlen], ?_, ?_, ?_⟩) (fun d hd => ?_) (fun d r hd hdb hnp => ?_)
          · rw [hlen, shifted]; simp; omega
          · rw [shifted, List.drop_append_of_le_length (by simp; omega), List.drop_of_length_le (by simp; omega), List.nil_append]
            exact List.take_left
          · rw [shifted]; simp; omega
          · obtain ⟨_, _, _, h⟩ := hd; cases h; exact k7' _ rfl
          · have : d ≠ xb := fun e => by
              rcases k7' d e with h | h
              · exact hnp h
              · rw [hd] at h; cases h
            rw [Heap.upd_other _ _ hdb, Heap.upd_other _ _ this]; exact k8 d r hd hdb hnp
        · -- no
          try simp only [decide_eq_false_iff_not] at h
          have hlt : ¬ 100 < past.length + 1 := by omega
          rw [if_neg hlt] at hk1
          refine ACode.skip ?_
          refine ACode.seq ?_
          refine ACode.region [6] rfl fun K1 hK => ?_
          simp -implicitDefEqProofs only [go_sem, ↓reduceIte, Nat.reduceEqDiff, Nat.reduceAdd, Nat.reduceSub, Nat.reduceMul, Nat.reduceLeDiff, reduceCtorEq, Bool.false_eq_true, Nat.reduceLT, aAppend]
          refine hK _ _ ?_ _ (by simp -implicitDefEqProofs only [go_sem, ↓reduceIte, Nat.reduceEqDiff, Nat.reduceAdd, Nat.reduceSub, Nat.reduceMul, Nat.reduceLeDiff, reduceCtorEq, Bool.false_eq_true, Nat.reduceLT]; rfl); clear hK K1
          refine ACode.ret ?_
          refine hk1 _ _ k1 (.inr ⟨xb, xi, xrow, k3, by simp, by simpa using k4, by simpa using k5, k6⟩) (fun d hd => ?_) (fun d r hd hdb hnp => k8 d r hd hdb hnp)
          obtain ⟨_, _, _, h⟩ := hd; cases h; exact k7' _ rfl


end Go.Flow

