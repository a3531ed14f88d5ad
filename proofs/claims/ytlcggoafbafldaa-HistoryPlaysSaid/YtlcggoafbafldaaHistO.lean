/-
  The reference's history: do. No condition.
-/
import Derived.Test.YtlcggoafbafldaaHistN
set_option linter.unusedVariables false
set_option linter.unusedSimpArgs false
set_option maxRecDepth 20000
namespace Go.Flow
open Go Go.Proofs

/-- whetstone/whetstoneref31.History.Do -/
theorem c10 (N : Nat) (hN : N ≤ 100000) (b pb pi : Nat) (prow past : List State) (cur : State) (note : List UInt8) (cs : List Change) (q : AV) (hq : q = .v (.slice none 0 0) ∨ ∃ d i j, q = .slr d 2 i j) (H : Heap)
    (hb : H b = some (.box (.agg [.slr pb 2 pi (pi + past.length), q]))) (hpb : H pb = some (.arr 2 (prow.map eState))) (hpj : pi + past.length ≤ prow.length) (hpp : (prow.drop pi).take past.length = past) (hpN : prow.length ≤ N) (h0 : 0 < past.length)
    (hcur : past[past.length - 1]? = some cur) (hl : cur.L.length ≤ 1000000) (hcl : cs.length ≤ 1000000) (hce : ∀ c ∈ cs, c.Edits.length ≤ 1000000) (hroom : Roomy cur.L cs) (K : AV → Heap → Prop)
    (hk0 : (applyC cur.L [] cs).2 ≠ 0 → K (int (applyC cur.L [] cs).2) H)
    (hk : (applyC cur.L [] cs).2 = 0 → ∀ x' H', H' b = some (.box (.agg [x', .v (.slice none 0 0)])) → Stk eState 2 (N + 1) H' (if 101 < past.length + 1 then (past ++ [(⟨note, (applyC cur.L [] cs).1⟩ : State)]).tail else past ++ [⟨note, (applyC cur.L [] cs).1⟩]) x' → (∀ d, blk x' d → d = pb ∨ H d = none) → (∀ d r, H d = some r → d ≠ b → d ≠ pb → H' d = some r) → K (int 0) H') :
    ACalls Try.prog 10 [.bp b 0 [], str note, .sl (cs.map eChange)] H K := by
  have hcur2 : prow[pi + past.length - 1]? = some cur := by
    have := Stk.get (k := past.length - 1) hpp (by omega)
    rw [show pi + past.length - 1 = pi + (past.length - 1) by omega, this, hcur]
  refine ACalls.of_code Try.func10 rfl (by kernel_rfl) rfl (by simp [Try.ntmps10]) ?_
  rw [Try.ntmps10, Try.results10]; simp -implicitDefEqProofs only [go_sem, ↓reduceIte, Nat.reduceEqDiff, Nat.reduceAdd, Nat.reduceSub, Nat.reduceMul, Nat.reduceLeDiff, reduceCtorEq, Bool.false_eq_true, Nat.reduceLT, aAppend]
  refine ACode.seq ?_
  refine ACode.region [0, 1, 2] rfl fun K1 hK => ?_
  simp -implicitDefEqProofs only [go_sem, ↓reduceIte, Nat.reduceEqDiff, Nat.reduceAdd, Nat.reduceSub, Nat.reduceMul, Nat.reduceLeDiff, reduceCtorEq, Bool.false_eq_true, Nat.reduceLT, aAppend]
  refine hK _ _ ?_ _ (by simp -implicitDefEqProofs only [go_sem, ↓reduceIte, Nat.reduceEqDiff, Nat.reduceAdd, Nat.reduceSub, Nat.reduceMul, Nat.reduceLeDiff, reduceCtorEq, Bool.false_eq_true, Nat.reduceLT]; rfl); clear hK K1
  refine ACode.seq ?_
  refine ACode.region [0, 1, 7, 8] rfl fun K1 hK => ?_
  simp -implicitDefEqProofs only [go_sem, ↓reduceIte, Nat.reduceEqDiff, Nat.reduceAdd, Nat.reduceSub, Nat.reduceMul, Nat.reduceLeDiff, reduceCtorEq, Bool.false_eq_true, Nat.reduceLT, aAppend]
  refine c18 b pb pi (pi + past.length) prow cur q (by omega) hpj (by omega) H hb hpb hcur2 _ ?_
  simp -implicitDefEqProofs only [go_sem, ↓reduceIte, Nat.reduceEqDiff, Nat.reduceAdd, Nat.reduceSub, Nat.reduceMul, Nat.reduceLeDiff, reduceCtorEq, Bool.false_eq_true, Nat.reduceLT, aAppend]
  refine c28 cur.L cs hl hcl hce hroom _ _ ?_
  simp -implicitDefEqProofs only [go_sem, ↓reduceIte, Nat.reduceEqDiff, Nat.reduceAdd, Nat.reduceSub, Nat.reduceMul, Nat.reduceLeDiff, reduceCtorEq, Bool.false_eq_true, Nat.reduceLT, aAppend]
  refine hK _ _ ?_ _ (by simp -implicitDefEqProofs only [go_sem, ↓reduceIte, Nat.reduceEqDiff, Nat.reduceAdd, Nat.reduceSub, Nat.reduceMul, Nat.reduceLeDiff, reduceCtorEq, Bool.false_eq_true, Nat.reduceLT]; rfl); clear hK K1
  refine ACode.seq ?_
  refine ACode.seq ?_
  refine ACode.region [0, 1, 7, 8, 17] rfl fun K1 hK => ?_
  simp -implicitDefEqProofs only [go_sem, ↓reduceIte, Nat.reduceEqDiff, Nat.reduceAdd, Nat.reduceSub, Nat.reduceMul, Nat.reduceLeDiff, reduceCtorEq, Bool.false_eq_true, Nat.reduceLT, aAppend]
  refine hK _ _ ?_ _ (by simp -implicitDefEqProofs only [go_sem, ↓reduceIte, Nat.reduceEqDiff, Nat.reduceAdd, Nat.reduceSub, Nat.reduceMul, Nat.reduceLeDiff, reduceCtorEq, Bool.false_eq_true, Nat.reduceLT]; rfl); clear hK K1
  refine ACode.cond rfl (fun h => ?_) (fun h => ?_)
  · -- yes
    try simp only [decide_eq_true_eq] at h
    have he : (applyC cur.L [] cs).2 ≠ 0 := by simpa using h
    refine ACode.seq ?_
    refine ACode.region [6] rfl fun K1 hK => ?_
    simp -implicitDefEqProofs only [go_sem, ↓reduceIte, Nat.reduceEqDiff, Nat.reduceAdd, Nat.reduceSub, Nat.reduceMul, Nat.reduceLeDiff, reduceCtorEq, Bool.false_eq_true, Nat.reduceLT, aAppend]
    refine hK _ _ ?_ _ (by simp -implicitDefEqProofs only [go_sem, ↓reduceIte, Nat.reduceEqDiff, Nat.reduceAdd, Nat.reduceSub, Nat.reduceMul, Nat.reduceLeDiff, reduceCtorEq, Bool.false_eq_true, Nat.reduceLT]; rfl); clear hK K1
    refine ACode.ret ?_
    exact hk0 he
  · -- no
    try simp only [decide_eq_false_iff_not] at h
    have he : (applyC cur.L [] cs).2 = 0 := by simpa using h
    refine ACode.skip ?_
    refine ACode.seq ?_
    refine ACode.region_cut [0] (fun ρ' H' => (∃ x', H' b = some (.box (.agg [x', q])) ∧ Stk eState 2 (N + 1) H' (past ++ [(⟨note, (applyC cur.L [] cs).1⟩ : State)]) x' ∧ (∀ d, blk x' d → d = pb ∨ H d = none) ∧ (∀ d r, H d = some r → d ≠ b → d ≠ pb → H' d = some r)) ∧ ρ' = [(0, .bp b 0 [])]) rfl (fun K1 hK => ?_) ?_
    · have hbp : b ≠ pb := fun e => by subst e; rw [hb] at hpb; cases hpb
      simp -implicitDefEqProofs only [go_sem, ↓reduceIte, Nat.reduceEqDiff, Nat.reduceAdd, Nat.reduceSub, Nat.reduceMul, Nat.reduceLeDiff, reduceCtorEq, Bool.false_eq_true, Nat.reduceLT, hb]
      intro u hu
      refine Stk.push (e := eState) (l := past) (.inr ⟨pb, pi, prow, hpb, rfl, hpj, hpp, hpN⟩) (⟨note, (applyC cur.L [] cs).1⟩ : State) u el50 ze66 ni50 (by omega) (by omega) (eState_size _) hu (by omega) fun x' H2 s1 s2 s3 => ?_
      have hb3 := s3 b _ hb (fun h => by obtain ⟨_, _, _, h⟩ := h; cases h; exact hbp rfl)
      have s2' : ∀ d, blk x' d → d = pb ∨ H d = none := fun d hd => (s2 d hd).imp (fun h => by obtain ⟨_, _, _, h⟩ := h; cases h; rfl) id
      have hxb : ∀ d, blk x' d → d ≠ b := fun d hd e => by
        subst e
        rcases s2' d hd with h | h
        · exact hbp h
        · rw [hb] at h; cases h
      have s1' := s1
      rcases s1' with ⟨h, -⟩ | ⟨xb, xi, xrow, g1, rfl, g2⟩
      · simp at h
      simp -implicitDefEqProofs only [go_sem, ↓reduceIte, Nat.reduceEqDiff, Nat.reduceAdd, Nat.reduceSub, Nat.reduceMul, Nat.reduceLeDiff, reduceCtorEq, Bool.false_eq_true, Nat.reduceLT, aAppend, hb3]
      refine hK _ _ ⟨⟨_, Heap.upd_same _ _ _, .inr ⟨xb, xi, xrow, by rw [Heap.upd_other _ _ (hxb xb ⟨_, _, _, rfl⟩)]; exact g1, rfl, g2⟩, s2', fun d r hd hdb hdp => ?_⟩, ?_⟩ _ (by simp -implicitDefEqProofs only [go_sem, ↓reduceIte, Nat.reduceEqDiff, Nat.reduceAdd, Nat.reduceSub, Nat.reduceMul, Nat.reduceLeDiff, reduceCtorEq, Bool.false_eq_true, Nat.reduceLT, aAppend] <;> rfl)
      · rw [Heap.upd_other _ _ hdb]
        exact s3 d r hd (fun h => by obtain ⟨_, _, _, h⟩ := h; cases h; exact hdp rfl)
      · rfl
    rintro ρ' H1 ⟨⟨x1, k1, k2, k3, k4⟩, rfl⟩
    refine ACode.seq ?_
    obtain ⟨xb, xi, xrow, g1, rfl, g2, g3, g4⟩ : ∃ (xb xi : Nat) (xrow : List State), H1 xb = some (.arr 2 (xrow.map eState)) ∧ x1 = .slr xb 2 xi (xi + (past.length + 1)) ∧ xi + (past.length + 1) ≤ xrow.length ∧ (xrow.drop xi).take (past.length + 1) = past ++ [(⟨note, (applyC cur.L [] cs).1⟩ : State)] ∧ xrow.length ≤ N + 1 := by
      rcases k2 with ⟨h, -⟩ | ⟨xb, xi, xrow, g1, g0, g2, g3, g4⟩
      · simp at h
      · rw [List.length_append, List.length_singleton] at g0 g2 g3
        exact ⟨xb, xi, xrow, g1, g0, g2, g3, g4⟩
    have hxb : xb ≠ b := fun e => by subst e; rw [k1] at g1; cases g1
    have k3' : xb = pb ∨ H xb = none := k3 xb ⟨_, _, _, rfl⟩
    refine ACode.region_cut [0] (fun ρ' H' => H' = H1.upd b (.box (.agg [.slr xb 2 xi (xi + (past.length + 1)), .v (.slice none 0 0)])) ∧ ρ' = [(0, .bp b 0 [])]) rfl (fun K1 hK => ?_) ?_
    · rcases hq with rfl | ⟨d, i, j, rfl⟩
      all_goals
        simp -implicitDefEqProofs only [go_sem, ↓reduceIte, Nat.reduceEqDiff, Nat.reduceAdd, Nat.reduceSub, Nat.reduceMul, Nat.reduceLeDiff, reduceCtorEq, Bool.false_eq_true, Nat.reduceLT, aAppend, k1]
        refine hK _ _ ⟨rfl, ?_⟩ _ (by simp -implicitDefEqProofs only [go_sem, ↓reduceIte, Nat.reduceEqDiff, Nat.reduceAdd, Nat.reduceSub, Nat.reduceMul, Nat.reduceLeDiff, reduceCtorEq, Bool.false_eq_true, Nat.reduceLT, aAppend] <;> rfl)
        rfl
    rintro ρ' H2 ⟨rfl, rfl⟩
    have j1 : (H1.upd b (.box (.agg [.slr xb 2 xi (xi + (past.length + 1)), .v (.slice none 0 0)]))) b = some (.box (.agg [.slr xb 2 xi (xi + (past.length + 1)), .v (.slice none 0 0)])) := Heap.upd_same _ _ _
    have e1 : ((xi + (past.length + 1) - xi : Nat) : Int) = ((past.length + 1 : Nat) : Int) := by congr 1; omega
    have j2 : ∀ r d, d ≠ b → (H1.upd b r) d = H1 d := fun r d hd => Heap.upd_other _ _ hd
    refine ACode.seq ?_
    refine ACode.seq ?_
    refine ACode.region [0, 39] rfl fun K1 hK => ?_
    simp -implicitDefEqProofs only [go_sem, ↓reduceIte, Nat.reduceEqDiff, Nat.reduceAdd, Nat.reduceSub, Nat.reduceMul, Nat.reduceLeDiff, reduceCtorEq, Bool.false_eq_true, Nat.reduceLT, aAppend, j1]
    rw [e1]
    refine hK _ _ ?_ _ (by simp -implicitDefEqProofs only [go_sem, ↓reduceIte, Nat.reduceEqDiff, Nat.reduceAdd, Nat.reduceSub, Nat.reduceMul, Nat.reduceLeDiff, reduceCtorEq, Bool.false_eq_true, Nat.reduceLT]; rfl); clear hK K1
    refine ACode.cond rfl (fun h => ?_) (fun h => ?_)
    · -- yes
      try simp only [decide_eq_true_eq] at h
      refine ACode.region [] rfl fun K1 hK => ?_
      simp -implicitDefEqProofs only [go_sem, ↓reduceIte, Nat.reduceEqDiff, Nat.reduceAdd, Nat.reduceSub, Nat.reduceMul, Nat.reduceLeDiff, reduceCtorEq, Bool.false_eq_true, Nat.reduceLT, aAppend, j1]
      refine ⟨by omega, by omega, by omega, ?_⟩
      rw [show xi + Int.toNat 1 = xi + 1 from rfl, show xi + (xi + (past.length + 1) - xi) = xi + 1 + past.length by omega]
      refine hK _ _ ?_ _ (by simp -implicitDefEqProofs only [go_sem, ↓reduceIte, Nat.reduceEqDiff, Nat.reduceAdd, Nat.reduceSub, Nat.reduceMul, Nat.reduceLeDiff, reduceCtorEq, Bool.false_eq_true, Nat.reduceLT]; rfl); clear hK K1
      refine ACode.seq ?_
      refine ACode.region [6] rfl fun K1 hK => ?_
      simp -implicitDefEqProofs only [go_sem, ↓reduceIte, Nat.reduceEqDiff, Nat.reduceAdd, Nat.reduceSub, Nat.reduceMul, Nat.reduceLeDiff, reduceCtorEq, Bool.false_eq_true, Nat.reduceLT, aAppend]
      refine hK _ _ ?_ _ (by simp -implicitDefEqProofs only [go_sem, ↓reduceIte, Nat.reduceEqDiff, Nat.reduceAdd, Nat.reduceSub, Nat.reduceMul, Nat.reduceLeDiff, reduceCtorEq, Bool.false_eq_true, Nat.reduceLT]; rfl); clear hK K1
      refine ACode.ret ?_
      have hlt : 101 < past.length + 1 := by omega
      rw [if_pos hlt] at hk
      have hne : past ++ [(⟨note, (applyC cur.L [] cs).1⟩ : State)] = past.head (List.ne_nil_of_length_pos h0) :: (past ++ [(⟨note, (applyC cur.L [] cs).1⟩ : State)]).tail := by
        cases past with
        | nil => simp at h0
        | cons p0 pr => rfl
      have hlen : (past ++ [(⟨note, (applyC cur.L [] cs).1⟩ : State)]).tail.length = past.length := by simp
      refine hk he _ _ (Heap.upd_same _ _ _) (.inr ⟨xb, xi + 1, xrow, by rw [j2 _ _ hxb]; exact g1, by rw [hlen], by rw [hlen]; omega, ?_, g4⟩) (fun d hd => ?_) (fun d r hd hdb hdp => by rw [j2 _ _ hdb]; exact k4 d r hd hdb hdp)
      · rw [hlen, ← g3, ← List.drop_drop]
        have h5 : ((xrow.drop xi).take (past.length + 1)).tail = ((xrow.drop xi).drop 1).take past.length := by
          rw [← List.drop_one, List.drop_take]; rfl
        rw [h5]
      · obtain ⟨_, _, _, h⟩ := hd; cases h; exact k3'
    · -- no
      try simp only [decide_eq_false_iff_not] at h
      have hlt : ¬ 101 < past.length + 1 := by omega
      rw [if_neg hlt] at hk
      refine ACode.skip ?_
      refine ACode.seq ?_
      refine ACode.region [6] rfl fun K1 hK => ?_
      simp -implicitDefEqProofs only [go_sem, ↓reduceIte, Nat.reduceEqDiff, Nat.reduceAdd, Nat.reduceSub, Nat.reduceMul, Nat.reduceLeDiff, reduceCtorEq, Bool.false_eq_true, Nat.reduceLT, aAppend]
      refine hK _ _ ?_ _ (by simp -implicitDefEqProofs only [go_sem, ↓reduceIte, Nat.reduceEqDiff, Nat.reduceAdd, Nat.reduceSub, Nat.reduceMul, Nat.reduceLeDiff, reduceCtorEq, Bool.false_eq_true, Nat.reduceLT]; rfl); clear hK K1
      refine ACode.ret ?_
      refine hk he _ _ (Heap.upd_same _ _ _) (.inr ⟨xb, xi, xrow, by rw [j2 _ _ hxb]; exact g1, by simp, by simpa using g2, by simpa using g3, g4⟩) (fun d hd => ?_) (fun d r hd hdb hdp => by rw [j2 _ _ hdb]; exact k4 d r hd hdb hdp)
      obtain ⟨_, _, _, h⟩ := hd; cases h; exact k3'


end Go.Flow

