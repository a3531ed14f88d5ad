/-
  The reference's history: undo. No condition.
-/
import Derived.Test.YtlcggoafbafldaaHistM
set_option linter.unusedVariables false
set_option linter.unusedSimpArgs false
set_option maxRecDepth 20000
namespace Go.Flow
open Go Go.Proofs

/-- whetstone/whetstoneref31.History.Undo: of one state -/
theorem c12o (b pb pi : Nat) (q : AV) (H : Heap) (hb : H b = some (.box (.agg [.slr pb 2 pi (pi + 1), q]))) (K : AV → Heap → Prop) (hk : K (.tup [str [], int 3]) H) : ACalls Try.prog 12 [.bp b 0 []] H K := by
  refine ACalls.of_code Try.func12 rfl (by kernel_rfl) rfl (by simp [Try.ntmps12]) ?_
  rw [Try.ntmps12, Try.results12]; simp -implicitDefEqProofs only [go_sem, ↓reduceIte, Nat.reduceEqDiff, Nat.reduceAdd, Nat.reduceSub, Nat.reduceMul, Nat.reduceLeDiff, reduceCtorEq, Bool.false_eq_true, Nat.reduceLT, aAppend]
  refine ACode.seq ?_
  refine ACode.region [0] rfl fun K1 hK => ?_
  simp -implicitDefEqProofs only [go_sem, ↓reduceIte, Nat.reduceEqDiff, Nat.reduceAdd, Nat.reduceSub, Nat.reduceMul, Nat.reduceLeDiff, reduceCtorEq, Bool.false_eq_true, Nat.reduceLT, aAppend]
  refine hK _ _ ?_ _ (by simp -implicitDefEqProofs only [go_sem, ↓reduceIte, Nat.reduceEqDiff, Nat.reduceAdd, Nat.reduceSub, Nat.reduceMul, Nat.reduceLeDiff, reduceCtorEq, Bool.false_eq_true, Nat.reduceLT]; rfl); clear hK K1
  refine ACode.seq ?_
  refine ACode.seq ?_
  refine ACode.region [0, 10] rfl fun K1 hK => ?_
  simp -implicitDefEqProofs only [go_sem, ↓reduceIte, Nat.reduceEqDiff, Nat.reduceAdd, Nat.reduceSub, Nat.reduceMul, Nat.reduceLeDiff, reduceCtorEq, Bool.false_eq_true, Nat.reduceLT, aAppend, hb]
  have e1 : ((pi + 1 - pi : Nat) : Int) = 1 := by omega
  rw [e1]
  refine hK _ _ ?_ _ (by simp -implicitDefEqProofs only [go_sem, ↓reduceIte, Nat.reduceEqDiff, Nat.reduceAdd, Nat.reduceSub, Nat.reduceMul, Nat.reduceLeDiff, reduceCtorEq, Bool.false_eq_true, Nat.reduceLT]; rfl); clear hK K1
  refine ACode.cond rfl (fun h => ?_) (fun h => ?_)
  · -- yes
    try simp only [decide_eq_true_eq] at h
    refine ACode.seq ?_
    refine ACode.region [2, 3] rfl fun K1 hK => ?_
    simp -implicitDefEqProofs only [go_sem, ↓reduceIte, Nat.reduceEqDiff, Nat.reduceAdd, Nat.reduceSub, Nat.reduceMul, Nat.reduceLeDiff, reduceCtorEq, Bool.false_eq_true, Nat.reduceLT, aAppend]
    refine hK _ _ ?_ _ (by simp -implicitDefEqProofs only [go_sem, ↓reduceIte, Nat.reduceEqDiff, Nat.reduceAdd, Nat.reduceSub, Nat.reduceMul, Nat.reduceLeDiff, reduceCtorEq, Bool.false_eq_true, Nat.reduceLT]; rfl); clear hK K1
    refine ACode.ret ?_
    exact hk
  · -- no
    simp at h


/-- whetstone/whetstoneref31.History.Undo: of some states -/
theorem c12s (N : Nat) (hN : N ≤ 100000) (b pb pi : Nat) (prow ps next : List State) (st : State) (hps : ps ≠ []) (q : AV) (H : Heap) (hb : H b = some (.box (.agg [.slr pb 2 pi (pi + (ps.length + 1)), q])))
    (hpb : H pb = some (.arr 2 (prow.map eState))) (hj : pi + (ps.length + 1) ≤ prow.length) (hst : prow[pi + ps.length]? = some st) (hq : Stk eState 2 N H next q) (hqb : ¬ blk q pb) (hpN : prow.length ≤ 100000)
    (K : AV → Heap → Prop) (hk : ∀ x' H', H' b = some (.box (.agg [.slr pb 2 pi (pi + ps.length), x'])) → H' pb = some (.arr 2 (prow.map eState)) → Stk eState 2 (N + 1) H' (next ++ [st]) x' → (∀ d, blk x' d → blk q d ∨ H d = none) → (∀ d r, H d = some r → d ≠ b → ¬ blk q d → H' d = some r) → K (.tup [str st.Note, int 0]) H') :
    ACalls Try.prog 12 [.bp b 0 []] H K := by
  have hlen : 0 < ps.length := List.length_pos_iff.2 hps
  have e0 : ((pi + (ps.length + 1) - pi : Nat) : Int) - 1 = (ps.length : Int) := by omega
  have hbp : b ≠ pb := fun e => by subst e; rw [hb] at hpb; cases hpb
  refine ACalls.of_code Try.func12 rfl (by kernel_rfl) rfl (by simp [Try.ntmps12]) ?_
  rw [Try.ntmps12, Try.results12]; simp -implicitDefEqProofs only [go_sem, ↓reduceIte, Nat.reduceEqDiff, Nat.reduceAdd, Nat.reduceSub, Nat.reduceMul, Nat.reduceLeDiff, reduceCtorEq, Bool.false_eq_true, Nat.reduceLT, aAppend]
  refine ACode.seq ?_
  refine ACode.region [0] rfl fun K1 hK => ?_
  simp -implicitDefEqProofs only [go_sem, ↓reduceIte, Nat.reduceEqDiff, Nat.reduceAdd, Nat.reduceSub, Nat.reduceMul, Nat.reduceLeDiff, reduceCtorEq, Bool.false_eq_true, Nat.reduceLT, aAppend]
  refine hK _ _ ?_ _ (by simp -implicitDefEqProofs only [go_sem, ↓reduceIte, Nat.reduceEqDiff, Nat.reduceAdd, Nat.reduceSub, Nat.reduceMul, Nat.reduceLeDiff, reduceCtorEq, Bool.false_eq_true, Nat.reduceLT]; rfl); clear hK K1
  refine ACode.seq ?_
  refine ACode.seq ?_
  refine ACode.region [0, 10] rfl fun K1 hK => ?_
  simp -implicitDefEqProofs only [go_sem, ↓reduceIte, Nat.reduceEqDiff, Nat.reduceAdd, Nat.reduceSub, Nat.reduceMul, Nat.reduceLeDiff, reduceCtorEq, Bool.false_eq_true, Nat.reduceLT, aAppend, hb]
  refine hK _ _ ?_ _ (by simp -implicitDefEqProofs only [go_sem, ↓reduceIte, Nat.reduceEqDiff, Nat.reduceAdd, Nat.reduceSub, Nat.reduceMul, Nat.reduceLeDiff, reduceCtorEq, Bool.false_eq_true, Nat.reduceLT]; rfl); clear hK K1
  refine ACode.cond rfl (fun h => ?_) (fun h => ?_)
  · -- yes
    simp only [decide_eq_true_eq] at h; omega
  · -- no
    try simp only [decide_eq_false_iff_not] at h
    refine ACode.skip ?_
    refine ACode.seq ?_
    refine ACode.region_draw [0, 4] [(0, 0), (1, 0), (2, 0), (4, 0), (5, 0), (6, 0), (3, 1), (7, 1), (8, 0), (9, 0), (10, 0), (11, 1), (12, 2), (13, 2)] (by kernel_rfl) (by kernel_rfl) rfl (by kernel_rfl) fun K1 hK => ?_
    simp -implicitDefEqProofs only [go_sem, ↓reduceIte, Nat.reduceEqDiff, Nat.reduceAdd, Nat.reduceSub, Nat.reduceMul, Nat.reduceLeDiff, reduceCtorEq, Bool.false_eq_true, Nat.reduceLT, aAppend, hb]
    rw [wrap_i64 (by omega) (by omega), e0]
    simp -implicitDefEqProofs only [go_sem, ↓reduceIte, Nat.reduceEqDiff, Nat.reduceAdd, Nat.reduceSub, Nat.reduceMul, Nat.reduceLeDiff, reduceCtorEq, Bool.false_eq_true, Nat.reduceLT, aAppend, hpb, hst, eState]
    refine ⟨by omega, fun u hu => ?_⟩
    refine hK _ _ ?_ _ (by simp -implicitDefEqProofs only [go_sem, ↓reduceIte, Nat.reduceEqDiff, Nat.reduceAdd, Nat.reduceSub, Nat.reduceMul, Nat.reduceLeDiff, reduceCtorEq, Bool.false_eq_true, Nat.reduceLT]; rfl); clear hK K1
    refine ACode.freeze1 u 4 (Heap.upd_same _ _ _) ?_
    simp -implicitDefEqProofs only [go_sem, ↓reduceIte, Nat.reduceEqDiff, Nat.reduceAdd, Nat.reduceSub, Nat.reduceMul, Nat.reduceLeDiff, reduceCtorEq, Bool.false_eq_true, Nat.reduceLT, aAppend, Heap.erase_upd_same _ u _ hu]
    refine ACode.seq ?_
    refine ACode.region_draw [0, 4] [(0, 0), (1, 0), (2, 0), (3, 0), (5, 0), (6, 0), (7, 0), (4, 1), (8, 1), (9, 0), (10, 0), (11, 0), (12, 0), (13, 0), (14, 2)] (by kernel_rfl) (by kernel_rfl) rfl (by kernel_rfl) fun K1 hK => ?_
    simp -implicitDefEqProofs only [go_sem, ↓reduceIte, Nat.reduceEqDiff, Nat.reduceAdd, Nat.reduceSub, Nat.reduceMul, Nat.reduceLeDiff, reduceCtorEq, Bool.false_eq_true, Nat.reduceLT, aAppend, hb]
    rw [wrap_i64 (by omega) (by omega), e0]
    simp -implicitDefEqProofs only [go_sem, ↓reduceIte, Nat.reduceEqDiff, Nat.reduceAdd, Nat.reduceSub, Nat.reduceMul, Nat.reduceLeDiff, reduceCtorEq, Bool.false_eq_true, Nat.reduceLT, aAppend, hb]
    refine ⟨by omega, ?_⟩
    refine hK _ _ ?_ _ (by simp -implicitDefEqProofs only [go_sem, ↓reduceIte, Nat.reduceEqDiff, Nat.reduceAdd, Nat.reduceSub, Nat.reduceMul, Nat.reduceLeDiff, reduceCtorEq, Bool.false_eq_true, Nat.reduceLT]; rfl); clear hK K1
    refine ACode.seq ?_
    refine ACode.draw_cut [4] [(0, 0), (1, 0), (2, 0), (3, 0), (4, 1), (5, 1), (6, 2), (7, 2), (8, 0), (9, 0), (10, 2)] (fun ρ' H' => (∃ x', H' b = some (.box (.agg [.slr pb 2 pi (pi + ps.length), x'])) ∧ H' pb = some (.arr 2 (prow.map eState)) ∧ Stk eState 2 (N + 1) H' (next ++ [st]) x' ∧ (∀ d, blk x' d → blk q d ∨ H d = none) ∧ (∀ d r, H d = some r → d ≠ b → ¬ blk q d → H' d = some r)) ∧ ρ' = [(4, .ip (eState st))]) (by kernel_rfl) (by kernel_rfl) rfl (by kernel_rfl) (fun K1 hK => ?_) ?_
    · have hb2 : (H.upd b (.box (.agg [.slr pb 2 pi (pi + ps.length), q]))) b = some (.box (.agg [.slr pb 2 pi (pi + ps.length), q])) := Heap.upd_same _ _ _
      have hnq : ∀ d, blk q d → d ≠ b := fun d hd e => by
        subst e
        rcases hq with ⟨-, rfl⟩ | ⟨qb, qi, qrow, h1, rfl, -⟩
        · obtain ⟨_, _, _, h⟩ := hd; cases h
        · obtain ⟨_, _, _, h⟩ := hd; cases h; rw [hb] at h1; cases h1
      have hq2 : Stk eState 2 N (H.upd b (.box (.agg [.slr pb 2 pi (pi + ps.length), q]))) next q := by
        rcases hq with ⟨h1, h2⟩ | ⟨qb, qi, qrow, h1, h2, h3⟩
        · exact .inl ⟨h1, h2⟩
        · exact .inr ⟨qb, qi, qrow, by rw [Heap.upd_other _ _ (hnq qb ⟨_, _, _, h2⟩)]; exact h1, h2, h3⟩
      have fin : ∀ x' H2, Stk eState 2 (N + 1) H2 (next ++ [st]) x' → (∀ d, blk x' d → blk q d ∨ (H.upd b (.box (.agg [.slr pb 2 pi (pi + ps.length), q]))) d = none) →
          (∀ d r, (H.upd b (.box (.agg [.slr pb 2 pi (pi + ps.length), q]))) d = some r → ¬ blk q d → H2 d = some r) →
          ∃ y, (H2.upd b (.box (.agg [.slr pb 2 pi (pi + ps.length), x']))) b = some (.box (.agg [.slr pb 2 pi (pi + ps.length), y])) ∧ (H2.upd b (.box (.agg [.slr pb 2 pi (pi + ps.length), x']))) pb = some (.arr 2 (prow.map eState)) ∧ Stk eState 2 (N + 1) (H2.upd b (.box (.agg [.slr pb 2 pi (pi + ps.length), x']))) (next ++ [st]) y ∧ (∀ d, blk y d → blk q d ∨ H d = none) ∧ (∀ d r, H d = some r → d ≠ b → ¬ blk q d → (H2.upd b (.box (.agg [.slr pb 2 pi (pi + ps.length), x']))) d = some r) := fun x' H2 s1 s2 s3 => by
        have hxb : ∀ d, blk x' d → d ≠ b := fun d hd e => by
          subst e
          rcases s2 d hd with h | h
          · exact hnq d h rfl
          · rw [Heap.upd_same] at h; cases h
        refine ⟨x', Heap.upd_same _ _ _, ?_, ?_, fun d hd => ?_, fun d r hd hdb hnb => ?_⟩
        · rw [Heap.upd_other _ _ (Ne.symm hbp)]
          exact s3 pb _ (by rw [Heap.upd_other _ _ (Ne.symm hbp)]; exact hpb) hqb
        · rcases s1 with ⟨h1, h2⟩ | ⟨xb, xi, xrow, h1, h2, h3⟩
          · exact .inl ⟨h1, h2⟩
          · exact .inr ⟨xb, xi, xrow, by rw [Heap.upd_other _ _ (hxb xb ⟨_, _, _, h2⟩)]; exact h1, h2, h3⟩
        · rcases s2 d hd with h | h
          · exact .inl h
          · rw [Heap.upd_other _ _ (hxb d hd)] at h; exact .inr h
        · rw [Heap.upd_other _ _ hdb]
          exact s3 d r (by rw [Heap.upd_other _ _ hdb]; exact hd) hnb
      have hbq : ¬ blk q b := fun h => hnq b h rfl
      generalize H.upd b (.box (.agg [.slr pb 2 pi (pi + ps.length), q])) = H1 at *
      rcases hq with ⟨-, rfl⟩ | ⟨qb, qi, qrow, -, rfl, -⟩
      all_goals
        simp -implicitDefEqProofs only [go_sem, ↓reduceIte, Nat.reduceEqDiff, Nat.reduceAdd, Nat.reduceSub, Nat.reduceMul, Nat.reduceLeDiff, reduceCtorEq, Bool.false_eq_true, Nat.reduceLT, hb2, eState]
        intro u2 hu2
        refine Stk.push hq2 st u2 el50 ze66 ni50 (by omega) (by omega) (eState_size st) hu2 (by omega) fun x' H2 s1 s2 s3 => ?_
        have hb3 := s3 b _ hb2 hbq
        rcases id s1 with ⟨h, -⟩ | ⟨xb, xi, xrow, -, rfl, -⟩
        · simp at h
        simp -implicitDefEqProofs only [go_sem, ↓reduceIte, Nat.reduceEqDiff, Nat.reduceAdd, Nat.reduceSub, Nat.reduceMul, Nat.reduceLeDiff, reduceCtorEq, Bool.false_eq_true, Nat.reduceLT, aAppend, hb3]
        refine hK _ _ ⟨fin _ _ s1 s2 s3, ?_⟩ _ (by simp -implicitDefEqProofs only [go_sem, ↓reduceIte, Nat.reduceEqDiff, Nat.reduceAdd, Nat.reduceSub, Nat.reduceMul, Nat.reduceLeDiff, reduceCtorEq, Bool.false_eq_true, Nat.reduceLT, aAppend, eState] <;> rfl)
        rfl
    rintro ρ' H' ⟨⟨x', k1, k2, k3, k4, k5⟩, rfl⟩
    refine ACode.seq ?_
    refine ACode.region [2, 3] rfl fun K1 hK => ?_
    simp -implicitDefEqProofs only [go_sem, ↓reduceIte, Nat.reduceEqDiff, Nat.reduceAdd, Nat.reduceSub, Nat.reduceMul, Nat.reduceLeDiff, reduceCtorEq, Bool.false_eq_true, Nat.reduceLT, aAppend, eState]
    refine hK _ _ ?_ _ (by simp -implicitDefEqProofs only [go_sem, ↓reduceIte, Nat.reduceEqDiff, Nat.reduceAdd, Nat.reduceSub, Nat.reduceMul, Nat.reduceLeDiff, reduceCtorEq, Bool.false_eq_true, Nat.reduceLT]; rfl); clear hK K1
    refine ACode.ret ?_
    exact hk x' H' k1 k2 k3 k4 k5



/-- whetstone/whetstoneref31.History.Redo: of none -/
theorem c14o (b qb qi : Nat) (p : AV) (hp : p.size = 1) (q : AV) (hq : q = .v (.slice none 0 0) ∨ q = .slr qb 2 qi qi) (H : Heap) (hb : H b = some (.box (.agg [p, q]))) (K : AV → Heap → Prop) (hk : K (.tup [str [], int 3]) H) : ACalls Try.prog 14 [.bp b 0 []] H K := by
  refine ACalls.of_code Try.func14 rfl (by kernel_rfl) rfl (by simp [Try.ntmps14]) ?_
  rw [Try.ntmps14, Try.results14]; simp -implicitDefEqProofs only [go_sem, ↓reduceIte, Nat.reduceEqDiff, Nat.reduceAdd, Nat.reduceSub, Nat.reduceMul, Nat.reduceLeDiff, reduceCtorEq, Bool.false_eq_true, Nat.reduceLT, aAppend]
  refine ACode.seq ?_
  refine ACode.region [0] rfl fun K1 hK => ?_
  simp -implicitDefEqProofs only [go_sem, ↓reduceIte, Nat.reduceEqDiff, Nat.reduceAdd, Nat.reduceSub, Nat.reduceMul, Nat.reduceLeDiff, reduceCtorEq, Bool.false_eq_true, Nat.reduceLT, aAppend]
  refine hK _ _ ?_ _ (by simp -implicitDefEqProofs only [go_sem, ↓reduceIte, Nat.reduceEqDiff, Nat.reduceAdd, Nat.reduceSub, Nat.reduceMul, Nat.reduceLeDiff, reduceCtorEq, Bool.false_eq_true, Nat.reduceLT]; rfl); clear hK K1
  refine ACode.seq ?_
  refine ACode.seq ?_
  refine ACode.region_cut [0, 11] (fun ρ' H1 => H1 = H ∧ ρ' = [(0, .bp b 0 []), (11, boo true)]) rfl (fun K1 hK => ?_) ?_
  · rcases hq with rfl | rfl
    · simp -implicitDefEqProofs only [go_sem, ↓reduceIte, Nat.reduceEqDiff, Nat.reduceAdd, Nat.reduceSub, Nat.reduceMul, Nat.reduceLeDiff, reduceCtorEq, Bool.false_eq_true, Nat.reduceLT, aAppend, hb, hp]
      refine hK _ _ ⟨rfl, rfl⟩ _ (by simp -implicitDefEqProofs only [go_sem, ↓reduceIte, Nat.reduceEqDiff, Nat.reduceAdd, Nat.reduceSub, Nat.reduceMul, Nat.reduceLeDiff, reduceCtorEq, Bool.false_eq_true, Nat.reduceLT, aAppend] <;> rfl)
    · simp -implicitDefEqProofs only [go_sem, ↓reduceIte, Nat.reduceEqDiff, Nat.reduceAdd, Nat.reduceSub, Nat.reduceMul, Nat.reduceLeDiff, reduceCtorEq, Bool.false_eq_true, Nat.reduceLT, aAppend, hb, hp]
      have e1 : ((qi - qi : Nat) : Int) = 0 := by omega
      rw [e1]
      refine hK _ _ ⟨rfl, rfl⟩ _ (by simp -implicitDefEqProofs only [go_sem, ↓reduceIte, Nat.reduceEqDiff, Nat.reduceAdd, Nat.reduceSub, Nat.reduceMul, Nat.reduceLeDiff, reduceCtorEq, Bool.false_eq_true, Nat.reduceLT, aAppend] <;> rfl)
  rintro ρ' H1 ⟨rfl, rfl⟩
  refine ACode.cond rfl (fun h => ?_) (fun h => ?_)
  · -- yes
    try simp only [decide_eq_true_eq] at h
    refine ACode.seq ?_
    refine ACode.region [2, 3] rfl fun K1 hK => ?_
    simp -implicitDefEqProofs only [go_sem, ↓reduceIte, Nat.reduceEqDiff, Nat.reduceAdd, Nat.reduceSub, Nat.reduceMul, Nat.reduceLeDiff, reduceCtorEq, Bool.false_eq_true, Nat.reduceLT, aAppend]
    refine hK _ _ ?_ _ (by simp -implicitDefEqProofs only [go_sem, ↓reduceIte, Nat.reduceEqDiff, Nat.reduceAdd, Nat.reduceSub, Nat.reduceMul, Nat.reduceLeDiff, reduceCtorEq, Bool.false_eq_true, Nat.reduceLT]; rfl); clear hK K1
    refine ACode.ret ?_
    exact hk
  · -- no
    cases h


/-- whetstone/whetstoneref31.History.Redo: of some -/
theorem c14s (b pb pi qb qi : Nat) (prow past qrow ns : List State) (st : State) (H : Heap) (hb : H b = some (.box (.agg [.slr pb 2 pi (pi + past.length), .slr qb 2 qi (qi + (ns.length + 1))])))
    (hpb : H pb = some (.arr 2 (prow.map eState))) (hpj : pi + past.length ≤ prow.length) (hpp : (prow.drop pi).take past.length = past)
    (hqb : H qb = some (.arr 2 (qrow.map eState))) (hj : qi + (ns.length + 1) ≤ qrow.length) (hst : qrow[qi + ns.length]? = some st) (hqN : qrow.length ≤ 100000) (hpN : prow.length ≤ 100000)
    (K : AV → Heap → Prop) (hk : ∀ nb H', H nb = none → H' b = some (.box (.agg [.slr nb 2 0 (past.length + 1), .slr qb 2 qi (qi + ns.length)])) → H' nb = some (.arr 2 ((past ++ [st]).map eState)) → (∀ d r, H d = some r → d ≠ b → H' d = some r) → K (.tup [str st.Note, int 0]) H') :
    ACalls Try.prog 14 [.bp b 0 []] H K := by
  have e0 : ((qi + (ns.length + 1) - qi : Nat) : Int) - 1 = (ns.length : Int) := by omega
  have hbp : b ≠ pb := fun e => by subst e; rw [hb] at hpb; cases hpb
  refine ACalls.of_code Try.func14 rfl (by kernel_rfl) rfl (by simp [Try.ntmps14]) ?_
  rw [Try.ntmps14, Try.results14]; simp -implicitDefEqProofs only [go_sem, ↓reduceIte, Nat.reduceEqDiff, Nat.reduceAdd, Nat.reduceSub, Nat.reduceMul, Nat.reduceLeDiff, reduceCtorEq, Bool.false_eq_true, Nat.reduceLT, aAppend]
  refine ACode.seq ?_
  refine ACode.region [0] rfl fun K1 hK => ?_
  simp -implicitDefEqProofs only [go_sem, ↓reduceIte, Nat.reduceEqDiff, Nat.reduceAdd, Nat.reduceSub, Nat.reduceMul, Nat.reduceLeDiff, reduceCtorEq, Bool.false_eq_true, Nat.reduceLT, aAppend]
  refine hK _ _ ?_ _ (by simp -implicitDefEqProofs only [go_sem, ↓reduceIte, Nat.reduceEqDiff, Nat.reduceAdd, Nat.reduceSub, Nat.reduceMul, Nat.reduceLeDiff, reduceCtorEq, Bool.false_eq_true, Nat.reduceLT]; rfl); clear hK K1
  refine ACode.seq ?_
  refine ACode.seq ?_
  refine ACode.region [0, 11] rfl fun K1 hK => ?_
  simp -implicitDefEqProofs only [go_sem, ↓reduceIte, Nat.reduceEqDiff, Nat.reduceAdd, Nat.reduceSub, Nat.reduceMul, Nat.reduceLeDiff, reduceCtorEq, Bool.false_eq_true, Nat.reduceLT, aAppend, hb]
  refine hK _ _ ?_ _ (by simp -implicitDefEqProofs only [go_sem, ↓reduceIte, Nat.reduceEqDiff, Nat.reduceAdd, Nat.reduceSub, Nat.reduceMul, Nat.reduceLeDiff, reduceCtorEq, Bool.false_eq_true, Nat.reduceLT]; rfl); clear hK K1
  refine ACode.cond rfl (fun h => ?_) (fun h => ?_)
  · -- yes
    simp only [decide_eq_true_eq] at h; omega
  · -- no
    try simp only [decide_eq_false_iff_not] at h
    refine ACode.skip ?_
    refine ACode.seq ?_
    refine ACode.region_draw [0, 4] [(0, 0), (1, 0), (2, 0), (4, 0), (5, 0), (6, 0), (3, 1), (7, 1), (8, 0), (9, 0), (10, 0), (11, 1), (12, 2), (13, 2)] (by kernel_rfl) (by kernel_rfl) rfl (by kernel_rfl) fun K1 hK => ?_
    simp -implicitDefEqProofs only [go_sem, ↓reduceIte, Nat.reduceEqDiff, Nat.reduceAdd, Nat.reduceSub, Nat.reduceMul, Nat.reduceLeDiff, reduceCtorEq, Bool.false_eq_true, Nat.reduceLT, aAppend, hb]
    rw [wrap_i64 (by omega) (by omega), e0]
    simp -implicitDefEqProofs only [go_sem, ↓reduceIte, Nat.reduceEqDiff, Nat.reduceAdd, Nat.reduceSub, Nat.reduceMul, Nat.reduceLeDiff, reduceCtorEq, Bool.false_eq_true, Nat.reduceLT, aAppend, hqb, hst, eState]
    refine ⟨by omega, fun u hu => ?_⟩
    refine hK _ _ ?_ _ (by simp -implicitDefEqProofs only [go_sem, ↓reduceIte, Nat.reduceEqDiff, Nat.reduceAdd, Nat.reduceSub, Nat.reduceMul, Nat.reduceLeDiff, reduceCtorEq, Bool.false_eq_true, Nat.reduceLT]; rfl); clear hK K1
    refine ACode.freeze1 u 4 (Heap.upd_same _ _ _) ?_
    simp -implicitDefEqProofs only [go_sem, ↓reduceIte, Nat.reduceEqDiff, Nat.reduceAdd, Nat.reduceSub, Nat.reduceMul, Nat.reduceLeDiff, reduceCtorEq, Bool.false_eq_true, Nat.reduceLT, aAppend, Heap.erase_upd_same _ u _ hu]
    refine ACode.seq ?_
    refine ACode.region_draw [0, 4] [(0, 0), (1, 0), (2, 0), (3, 0), (5, 0), (6, 0), (7, 0), (4, 1), (8, 1), (9, 0), (10, 0), (11, 0), (12, 0), (13, 0), (14, 2)] (by kernel_rfl) (by kernel_rfl) rfl (by kernel_rfl) fun K1 hK => ?_
    simp -implicitDefEqProofs only [go_sem, ↓reduceIte, Nat.reduceEqDiff, Nat.reduceAdd, Nat.reduceSub, Nat.reduceMul, Nat.reduceLeDiff, reduceCtorEq, Bool.false_eq_true, Nat.reduceLT, aAppend, hb]
    rw [wrap_i64 (by omega) (by omega), e0]
    simp -implicitDefEqProofs only [go_sem, ↓reduceIte, Nat.reduceEqDiff, Nat.reduceAdd, Nat.reduceSub, Nat.reduceMul, Nat.reduceLeDiff, reduceCtorEq, Bool.false_eq_true, Nat.reduceLT, aAppend, hb]
    refine ⟨by omega, ?_⟩
    refine hK _ _ ?_ _ (by simp -implicitDefEqProofs only [go_sem, ↓reduceIte, Nat.reduceEqDiff, Nat.reduceAdd, Nat.reduceSub, Nat.reduceMul, Nat.reduceLeDiff, reduceCtorEq, Bool.false_eq_true, Nat.reduceLT]; rfl); clear hK K1
    have hb2 : (H.upd b (.box (.agg [.slr pb 2 pi (pi + past.length), .slr qb 2 qi (qi + ns.length)]))) b = some (.box (.agg [.slr pb 2 pi (pi + past.length), .slr qb 2 qi (qi + ns.length)])) := Heap.upd_same _ _ _
    have hpb2 : (H.upd b (.box (.agg [.slr pb 2 pi (pi + past.length), .slr qb 2 qi (qi + ns.length)]))) pb = some (.arr 2 (prow.map eState)) := by rw [Heap.upd_other _ _ (Ne.symm hbp)]; exact hpb
    have hoth : ∀ d r, H d = some r → d ≠ b → (H.upd b (.box (.agg [.slr pb 2 pi (pi + past.length), .slr qb 2 qi (qi + ns.length)]))) d = some r := fun d r hd hdb => by rw [Heap.upd_other _ _ hdb]; exact hd
    have hfree : ∀ d, (H.upd b (.box (.agg [.slr pb 2 pi (pi + past.length), .slr qb 2 qi (qi + ns.length)]))) d = none → H d = none := fun d hd => by
      by_cases e : d = b
      · subst e; rw [hb2] at hd; cases hd
      · rwa [Heap.upd_other _ _ e] at hd
    generalize H.upd b (.box (.agg [.slr pb 2 pi (pi + past.length), .slr qb 2 qi (qi + ns.length)])) = H1 at *
    refine ACode.seq ?_
    refine ACode.region [0, 4, 5] rfl fun K1 hK => ?_
    simp -implicitDefEqProofs only [go_sem, ↓reduceIte, Nat.reduceEqDiff, Nat.reduceAdd, Nat.reduceSub, Nat.reduceMul, Nat.reduceLeDiff, reduceCtorEq, Bool.false_eq_true, Nat.reduceLT, aAppend]
    refine hK _ _ ?_ _ (by simp -implicitDefEqProofs only [go_sem, ↓reduceIte, Nat.reduceEqDiff, Nat.reduceAdd, Nat.reduceSub, Nat.reduceMul, Nat.reduceLeDiff, reduceCtorEq, Bool.false_eq_true, Nat.reduceLT]; rfl); clear hK K1
    refine ACode.seq ?_
    refine ACode.region [0, 4, 5] rfl fun K1 hK => ?_
    simp -implicitDefEqProofs only [go_sem, ↓reduceIte, Nat.reduceEqDiff, Nat.reduceAdd, Nat.reduceSub, Nat.reduceMul, Nat.reduceLeDiff, reduceCtorEq, Bool.false_eq_true, Nat.reduceLT, hb2]
    refine AppSt.append AppSt.nil el50 ze66 ni50 (by omega) (by omega) (srcOf_slr (l2 := past.map eState) hpb2 (by simp; omega) (by rw [← List.map_drop, ← List.map_take, show pi + past.length - pi = past.length by omega, hpp])) (eState_sizes _) (by simp; omega) fun x5 H2 hst5 => ?_
    simp -implicitDefEqProofs only [go_sem, ↓reduceIte, Nat.reduceEqDiff, Nat.reduceAdd, Nat.reduceSub, Nat.reduceMul, Nat.reduceLeDiff, reduceCtorEq, Bool.false_eq_true, Nat.reduceLT, aAppend]
    refine hK _ _ ?_ _ (by simp -implicitDefEqProofs only [go_sem, ↓reduceIte, Nat.reduceEqDiff, Nat.reduceAdd, Nat.reduceSub, Nat.reduceMul, Nat.reduceLeDiff, reduceCtorEq, Bool.false_eq_true, Nat.reduceLT]; rfl); clear hK K1
    refine ACode.seq ?_
    refine ACode.region_cut [4] (fun ρ' H' => (∃ nb H3, H nb = none ∧ H' = H3.upd b (.box (.agg [.slr nb 2 0 (past.length + 1), .slr qb 2 qi (qi + ns.length)])) ∧ nb ≠ b ∧ H3 nb = some (.arr 2 ((past ++ [st]).map eState)) ∧ Heap.le H1 H3) ∧ ρ' = [(4, .ip (eState st))]) rfl (fun K1 hK => ?_) ?_
    · simp -implicitDefEqProofs only [go_sem, ↓reduceIte, Nat.reduceEqDiff, Nat.reduceAdd, Nat.reduceSub, Nat.reduceMul, Nat.reduceLeDiff, reduceCtorEq, Bool.false_eq_true, Nat.reduceLT, eState]
      intro u2 hu2
      refine AppSt.append (hst5.le (Heap.le_upd hu2)) el50 ze66 ni50 (by omega) (by omega) (srcOf_one _ _ _ _) (sizesAre_one (by simp [AV.size, AV.sizes, str])) (by simp; omega) fun x8 H3 hst8 => ?_
      have hb3 := hst8.1 _ _ hb2
      obtain ⟨hle, ⟨hn, -⟩ | ⟨nb, hnb, hnb1, rfl⟩⟩ := hst8
      · simp at hn
      have hnbb : nb ≠ b := fun e => by subst e; rw [hb2] at hnb; cases hnb
      simp -implicitDefEqProofs only [go_sem, ↓reduceIte, Nat.reduceEqDiff, Nat.reduceAdd, Nat.reduceSub, Nat.reduceMul, Nat.reduceLeDiff, reduceCtorEq, Bool.false_eq_true, Nat.reduceLT, aAppend, hb3]
      refine hK _ _ ⟨⟨nb, H3, hfree nb hnb, ?_, hnbb, ?_, hle⟩, ?_⟩ _ (by simp -implicitDefEqProofs only [go_sem, ↓reduceIte, Nat.reduceEqDiff, Nat.reduceAdd, Nat.reduceSub, Nat.reduceMul, Nat.reduceLeDiff, reduceCtorEq, Bool.false_eq_true, Nat.reduceLT, aAppend, eState] <;> rfl)
      · simp
      · rw [hnb1]; simp [eState, str]
      · rfl
    rintro ρ' H' ⟨⟨nb, H3, k1, rfl, k2, k3, k4⟩, rfl⟩
    refine ACode.seq ?_
    refine ACode.region [2, 3] rfl fun K1 hK => ?_
    simp -implicitDefEqProofs only [go_sem, ↓reduceIte, Nat.reduceEqDiff, Nat.reduceAdd, Nat.reduceSub, Nat.reduceMul, Nat.reduceLeDiff, reduceCtorEq, Bool.false_eq_true, Nat.reduceLT, aAppend, eState]
    refine hK _ _ ?_ _ (by simp -implicitDefEqProofs only [go_sem, ↓reduceIte, Nat.reduceEqDiff, Nat.reduceAdd, Nat.reduceSub, Nat.reduceMul, Nat.reduceLeDiff, reduceCtorEq, Bool.false_eq_true, Nat.reduceLT]; rfl); clear hK K1
    refine ACode.ret ?_
    refine hk nb _ k1 (Heap.upd_same _ _ _) (by rw [Heap.upd_other _ _ k2]; exact k3) (fun d r hd hdb => ?_)
    rw [Heap.upd_other _ _ hdb]; exact k4 d r (hoth d r hd hdb)


end Go.Flow

