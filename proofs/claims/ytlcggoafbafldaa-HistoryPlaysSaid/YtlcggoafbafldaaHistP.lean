/-
  The program's history: undo, redo. Over a contract of edit.Apply.
-/
import Derived.Test.YtlcggoafbafldaaHistM
set_option linter.unusedVariables false
set_option linter.unusedSimpArgs false
set_option maxRecDepth 20000
namespace Go.Flow
open Go Go.Proofs

/-- whetstone/history.History.Undo: of none -/
theorem c11o (b pb pi : Nat) (now : List Mod) (p : AV) (hp1 : p = .v (.slice none 0 0) ∨ p = .slr pb 3 pi pi) (q : AV) (h2 : q.size = 1) (H : Heap) (hb : H b = some (.box (.agg [.sl (now.map eMod), p, q]))) (K : AV → Heap → Prop) (hk : K (.tup [str [], int 3]) H) : ACalls Try.prog 11 [.bp b 0 []] H K := by
  refine ACalls.of_code Try.func11 rfl (by kernel_rfl) rfl (by simp [Try.ntmps11]) ?_
  rw [Try.ntmps11, Try.results11]; simp -implicitDefEqProofs only [go_sem, ↓reduceIte, Nat.reduceEqDiff, Nat.reduceAdd, Nat.reduceSub, Nat.reduceMul, Nat.reduceLeDiff, reduceCtorEq, Bool.false_eq_true, Nat.reduceLT, aAppend]
  refine ACode.seq ?_
  refine ACode.region [0] rfl fun K1 hK => ?_
  simp -implicitDefEqProofs only [go_sem, ↓reduceIte, Nat.reduceEqDiff, Nat.reduceAdd, Nat.reduceSub, Nat.reduceMul, Nat.reduceLeDiff, reduceCtorEq, Bool.false_eq_true, Nat.reduceLT, aAppend]
  refine hK _ _ ?_ _ (by simp -implicitDefEqProofs only [go_sem, ↓reduceIte, Nat.reduceEqDiff, Nat.reduceAdd, Nat.reduceSub, Nat.reduceMul, Nat.reduceLeDiff, reduceCtorEq, Bool.false_eq_true, Nat.reduceLT]; rfl); clear hK K1
  refine ACode.seq ?_
  refine ACode.block ?_
  refine ACode.seq ?_
  refine ACode.region [0, 7] rfl fun K1 hK => ?_
  simp -implicitDefEqProofs only [go_sem, ↓reduceIte, Nat.reduceEqDiff, Nat.reduceAdd, Nat.reduceSub, Nat.reduceMul, Nat.reduceLeDiff, reduceCtorEq, Bool.false_eq_true, Nat.reduceLT, aAppend]
  refine hK _ _ ?_ _ (by simp -implicitDefEqProofs only [go_sem, ↓reduceIte, Nat.reduceEqDiff, Nat.reduceAdd, Nat.reduceSub, Nat.reduceMul, Nat.reduceLeDiff, reduceCtorEq, Bool.false_eq_true, Nat.reduceLT]; rfl); clear hK K1
  refine ACode.cond rfl (fun h => ?_) (fun h => ?_)
  · -- yes
    cases h
  · -- no
    try simp only [decide_eq_false_iff_not] at h
    refine ACode.seq ?_
    refine ACode.region_cut [0, 10] (fun ρ' H1 => H1 = H ∧ ρ' = [(0, .bp b 0 []), (10, boo true)]) rfl (fun K1 hK => ?_) ?_
    · rcases hp1 with rfl | rfl
      · simp -implicitDefEqProofs only [go_sem, ↓reduceIte, Nat.reduceEqDiff, Nat.reduceAdd, Nat.reduceSub, Nat.reduceMul, Nat.reduceLeDiff, reduceCtorEq, Bool.false_eq_true, Nat.reduceLT, aAppend, hb, h2]
        refine hK _ _ ⟨rfl, rfl⟩ _ (by simp -implicitDefEqProofs only [go_sem, ↓reduceIte, Nat.reduceEqDiff, Nat.reduceAdd, Nat.reduceSub, Nat.reduceMul, Nat.reduceLeDiff, reduceCtorEq, Bool.false_eq_true, Nat.reduceLT, aAppend] <;> rfl)
      · simp -implicitDefEqProofs only [go_sem, ↓reduceIte, Nat.reduceEqDiff, Nat.reduceAdd, Nat.reduceSub, Nat.reduceMul, Nat.reduceLeDiff, reduceCtorEq, Bool.false_eq_true, Nat.reduceLT, aAppend, hb, h2]
        have e1 : ((pi - pi : Nat) : Int) = 0 := by omega
        rw [e1]
        refine hK _ _ ⟨rfl, rfl⟩ _ (by simp -implicitDefEqProofs only [go_sem, ↓reduceIte, Nat.reduceEqDiff, Nat.reduceAdd, Nat.reduceSub, Nat.reduceMul, Nat.reduceLeDiff, reduceCtorEq, Bool.false_eq_true, Nat.reduceLT, aAppend] <;> rfl)
    rintro ρ' H1 ⟨rfl, rfl⟩
    refine ACode.cond rfl (fun h => ?_) (fun h => ?_)
    · -- yes
      try simp only [decide_eq_true_eq] at h
      refine ACode.seq ?_
      refine ACode.region [2, 3] rfl fun K1 hK => ?_
      simp -implicitDefEqProofs only [go_sem, ↓reduceIte, Nat.reduceEqDiff, Nat.reduceAdd, Nat.reduceSub, Nat.reduceMul, Nat.reduceLeDiff, reduceCtorEq, Bool.false_eq_true, Nat.reduceLT, aAppend]
      refine hK _ _ ?_ _ (by simp -implicitDefEqProofs only [go_sem, ↓reduceIte, Nat.reduceEqDiff, Nat.reduceAdd, Nat.reduceSub, Nat.reduceMul, Nat.reduceLeDiff, reduceCtorEq, Bool.false_eq_true, Nat.reduceLT]; rfl); clear hK K1
      refine ACode.ret ?_
      exact hk
    · -- no
      cases h


/-- whetstone/history.History.Undo: of some steps -/
theorem c11s (h34 : Edit34) (N : Nat) (hN : N ≤ 100000) (b pb pi : Nat) (now : List Mod) (prow ps next : List Step) (st : Step) (q : AV) (H : Heap)
    (hb : H b = some (.box (.agg [.sl (now.map eMod), .slr pb 3 pi (pi + (ps.length + 1)), q])))
    (hpb : H pb = some (.arr 3 (prow.map eStep))) (hj : pi + (ps.length + 1) ≤ prow.length) (hst : prow[pi + ps.length]? = some st) (hq : Stk eStep 3 N H next q) (hqb : ¬ blk q pb) (hpN : prow.length ≤ 100000)
    (hl : now.length ≤ 1000000) (hcl : st.undo.length ≤ 1000000) (hce : ∀ c ∈ st.undo, c.Edits.length ≤ 1000000) (hroom : Roomy now st.undo) (he : (applyC now [] st.undo).2 = 0)
    (K : AV → Heap → Prop) (hk : ∀ x' H', H' b = some (.box (.agg [.sl ((applyC now [] st.undo).1.map eMod), .slr pb 3 pi (pi + ps.length), x'])) → H' pb = some (.arr 3 (prow.map eStep)) → Stk eStep 3 (N + 1) H' (next ++ [st]) x' → (∀ d, blk x' d → blk q d ∨ H d = none) → (∀ d r, H d = some r → d ≠ b → ¬ blk q d → H' d = some r) → K (.tup [str st.note, int 0]) H') :
    ACalls Try.prog 11 [.bp b 0 []] H K := by
  have e0 : ((pi + (ps.length + 1) - pi : Nat) : Int) - 1 = (ps.length : Int) := by omega
  have hbp : b ≠ pb := fun e => by subst e; rw [hb] at hpb; cases hpb
  have hqs : q.size = 1 := by rcases hq with ⟨-, rfl⟩ | ⟨qb, qi, qrow, -, rfl, -⟩ <;> rfl
  refine ACalls.of_code Try.func11 rfl (by kernel_rfl) rfl (by simp [Try.ntmps11]) ?_
  rw [Try.ntmps11, Try.results11]; simp -implicitDefEqProofs only [go_sem, ↓reduceIte, Nat.reduceEqDiff, Nat.reduceAdd, Nat.reduceSub, Nat.reduceMul, Nat.reduceLeDiff, reduceCtorEq, Bool.false_eq_true, Nat.reduceLT, aAppend]
  refine ACode.seq ?_
  refine ACode.region [0] rfl fun K1 hK => ?_
  simp -implicitDefEqProofs only [go_sem, ↓reduceIte, Nat.reduceEqDiff, Nat.reduceAdd, Nat.reduceSub, Nat.reduceMul, Nat.reduceLeDiff, reduceCtorEq, Bool.false_eq_true, Nat.reduceLT, aAppend]
  refine hK _ _ ?_ _ (by simp -implicitDefEqProofs only [go_sem, ↓reduceIte, Nat.reduceEqDiff, Nat.reduceAdd, Nat.reduceSub, Nat.reduceMul, Nat.reduceLeDiff, reduceCtorEq, Bool.false_eq_true, Nat.reduceLT]; rfl); clear hK K1
  refine ACode.seq ?_
  refine ACode.block ?_
  refine ACode.seq ?_
  refine ACode.region [0, 7] rfl fun K1 hK => ?_
  simp -implicitDefEqProofs only [go_sem, ↓reduceIte, Nat.reduceEqDiff, Nat.reduceAdd, Nat.reduceSub, Nat.reduceMul, Nat.reduceLeDiff, reduceCtorEq, Bool.false_eq_true, Nat.reduceLT, aAppend]
  refine hK _ _ ?_ _ (by simp -implicitDefEqProofs only [go_sem, ↓reduceIte, Nat.reduceEqDiff, Nat.reduceAdd, Nat.reduceSub, Nat.reduceMul, Nat.reduceLeDiff, reduceCtorEq, Bool.false_eq_true, Nat.reduceLT]; rfl); clear hK K1
  refine ACode.cond rfl (fun h => ?_) (fun h => ?_)
  · -- yes
    cases h
  · -- no
    try simp only [decide_eq_false_iff_not] at h
    refine ACode.seq ?_
    refine ACode.region [0, 10] rfl fun K1 hK => ?_
    simp -implicitDefEqProofs only [go_sem, ↓reduceIte, Nat.reduceEqDiff, Nat.reduceAdd, Nat.reduceSub, Nat.reduceMul, Nat.reduceLeDiff, reduceCtorEq, Bool.false_eq_true, Nat.reduceLT, aAppend, hb, hqs]
    refine hK _ _ ?_ _ (by simp -implicitDefEqProofs only [go_sem, ↓reduceIte, Nat.reduceEqDiff, Nat.reduceAdd, Nat.reduceSub, Nat.reduceMul, Nat.reduceLeDiff, reduceCtorEq, Bool.false_eq_true, Nat.reduceLT]; rfl); clear hK K1
    refine ACode.cond rfl (fun h => ?_) (fun h => ?_)
    · -- yes
      simp only [decide_eq_true_eq] at h; omega
    · -- no
      try simp only [decide_eq_false_iff_not] at h
      refine ACode.skip ?_
      refine ACode.seq ?_
      refine ACode.region_draw [0, 4] [(0, 0), (1, 0), (2, 0), (4, 0), (5, 0), (6, 0), (3, 1), (7, 1), (8, 0), (9, 0), (10, 0), (11, 1), (12, 2), (13, 2)] (by kernel_rfl) (by kernel_rfl) rfl (by kernel_rfl) fun K1 hK => ?_
      simp -implicitDefEqProofs only [go_sem, ↓reduceIte, Nat.reduceEqDiff, Nat.reduceAdd, Nat.reduceSub, Nat.reduceMul, Nat.reduceLeDiff, reduceCtorEq, Bool.false_eq_true, Nat.reduceLT, aAppend, hb, hqs]
      rw [wrap_i64 (by omega) (by omega), e0]
      simp -implicitDefEqProofs only [go_sem, ↓reduceIte, Nat.reduceEqDiff, Nat.reduceAdd, Nat.reduceSub, Nat.reduceMul, Nat.reduceLeDiff, reduceCtorEq, Bool.false_eq_true, Nat.reduceLT, aAppend, hpb, hst, eStep]
      refine ⟨by omega, fun u hu => ?_⟩
      refine hK _ _ ?_ _ (by simp -implicitDefEqProofs only [go_sem, ↓reduceIte, Nat.reduceEqDiff, Nat.reduceAdd, Nat.reduceSub, Nat.reduceMul, Nat.reduceLeDiff, reduceCtorEq, Bool.false_eq_true, Nat.reduceLT]; rfl); clear hK K1
      refine ACode.freeze1 u 4 (Heap.upd_same _ _ _) ?_
      simp -implicitDefEqProofs only [go_sem, ↓reduceIte, Nat.reduceEqDiff, Nat.reduceAdd, Nat.reduceSub, Nat.reduceMul, Nat.reduceLeDiff, reduceCtorEq, Bool.false_eq_true, Nat.reduceLT, aAppend, Heap.erase_upd_same _ u _ hu]
      refine ACode.seq ?_
      refine ACode.region_draw [0, 4, 5, 6] [(0, 0), (1, 0), (2, 0), (4, 0), (3, 1), (5, 1), (6, 2), (7, 0), (8, 0), (9, 0), (10, 0), (11, 0)] (by kernel_rfl) (by kernel_rfl) rfl (by kernel_rfl) fun K1 hK => ?_
      simp -implicitDefEqProofs only [go_sem, ↓reduceIte, Nat.reduceEqDiff, Nat.reduceAdd, Nat.reduceSub, Nat.reduceMul, Nat.reduceLeDiff, reduceCtorEq, Bool.false_eq_true, Nat.reduceLT, aAppend, hb, hqs]
      refine c23 h34 now st.undo hl hcl hce hroom _ _ ?_
      simp -implicitDefEqProofs only [go_sem, ↓reduceIte, Nat.reduceEqDiff, Nat.reduceAdd, Nat.reduceSub, Nat.reduceMul, Nat.reduceLeDiff, reduceCtorEq, Bool.false_eq_true, Nat.reduceLT, aAppend]
      refine hK _ _ ?_ _ (by simp -implicitDefEqProofs only [go_sem, ↓reduceIte, Nat.reduceEqDiff, Nat.reduceAdd, Nat.reduceSub, Nat.reduceMul, Nat.reduceLeDiff, reduceCtorEq, Bool.false_eq_true, Nat.reduceLT]; rfl); clear hK K1
      rw [he]
      refine ACode.seq ?_
      refine ACode.seq ?_
      refine ACode.region [0, 4, 5, 6, 40] rfl fun K1 hK => ?_
      simp -implicitDefEqProofs only [go_sem, ↓reduceIte, Nat.reduceEqDiff, Nat.reduceAdd, Nat.reduceSub, Nat.reduceMul, Nat.reduceLeDiff, reduceCtorEq, Bool.false_eq_true, Nat.reduceLT, aAppend]
      refine hK _ _ ?_ _ (by simp -implicitDefEqProofs only [go_sem, ↓reduceIte, Nat.reduceEqDiff, Nat.reduceAdd, Nat.reduceSub, Nat.reduceMul, Nat.reduceLeDiff, reduceCtorEq, Bool.false_eq_true, Nat.reduceLT]; rfl); clear hK K1
      refine ACode.cond rfl (fun h => ?_) (fun h => ?_)
      · -- yes
        exact absurd h (by simp)
      · -- no
        try simp only [decide_eq_false_iff_not] at h
        refine ACode.skip ?_
        refine ACode.seq ?_
        refine ACode.draw_cut [4] [(0, 0), (1, 0), (2, 0), (3, 0), (4, 0), (5, 0), (6, 0), (8, 0), (9, 0), (10, 0), (15, 0), (16, 0), (17, 0), (18, 1), (19, 1), (7, 4), (11, 4), (12, 0), (13, 0), (14, 0), (20, 2), (21, 2), (22, 0), (23, 0), (24, 2), (25, 0), (26, 0), (27, 2), (28, 0), (29, 0), (30, 2)] (fun ρ' H' => (∃ x', H' b = some (.box (.agg [.sl ((applyC now [] st.undo).1.map eMod), .slr pb 3 pi (pi + ps.length), x'])) ∧ H' pb = some (.arr 3 (prow.map eStep)) ∧ Stk eStep 3 (N + 1) H' (next ++ [st]) x' ∧ (∀ d, blk x' d → blk q d ∨ H d = none) ∧ (∀ d r, H d = some r → d ≠ b → ¬ blk q d → H' d = some r)) ∧ ρ' = [(4, .ip (eStep st))]) (by kernel_rfl) (by kernel_rfl) rfl (by kernel_rfl) (fun K1 hK => ?_) ?_
        · have hnq : ∀ d, blk q d → d ≠ b := fun d hd e => by
            subst e
            rcases hq with ⟨-, rfl⟩ | ⟨qb, qi, qrow, h1, rfl, -⟩
            · obtain ⟨_, _, _, h⟩ := hd; cases h
            · obtain ⟨_, _, _, h⟩ := hd; cases h; rw [hb] at h1; cases h1
          have hbq : ¬ blk q b := fun h => hnq b h rfl
          have fin : ∀ x' H2, Stk eStep 3 (N + 1) H2 (next ++ [st]) x' → (∀ d, blk x' d → blk q d ∨ H d = none) →
              (∀ d r, H d = some r → ¬ blk q d → H2 d = some r) →
              ∃ y, (H2.upd b (.box (.agg [.sl ((applyC now [] st.undo).1.map eMod), .slr pb 3 pi (pi + ps.length), x']))) b = some (.box (.agg [.sl ((applyC now [] st.undo).1.map eMod), .slr pb 3 pi (pi + ps.length), y])) ∧ (H2.upd b (.box (.agg [.sl ((applyC now [] st.undo).1.map eMod), .slr pb 3 pi (pi + ps.length), x']))) pb = some (.arr 3 (prow.map eStep)) ∧ Stk eStep 3 (N + 1) (H2.upd b (.box (.agg [.sl ((applyC now [] st.undo).1.map eMod), .slr pb 3 pi (pi + ps.length), x']))) (next ++ [st]) y ∧ (∀ d, blk y d → blk q d ∨ H d = none) ∧ (∀ d r, H d = some r → d ≠ b → ¬ blk q d → (H2.upd b (.box (.agg [.sl ((applyC now [] st.undo).1.map eMod), .slr pb 3 pi (pi + ps.length), x']))) d = some r) := fun x' H2 s1 s2 s3 => by
            have hxb : ∀ d, blk x' d → d ≠ b := fun d hd e => by
              subst e
              rcases s2 d hd with h | h
              · exact hnq d h rfl
              · rw [hb] at h; cases h
            refine ⟨x', Heap.upd_same _ _ _, ?_, ?_, s2, fun d r hd hdb hnb => ?_⟩
            · rw [Heap.upd_other _ _ (Ne.symm hbp)]
              exact s3 pb _ hpb hqb
            · rcases s1 with ⟨h1, h2⟩ | ⟨xb, xi, xrow, h1, h2, h3⟩
              · exact .inl ⟨h1, h2⟩
              · exact .inr ⟨xb, xi, xrow, by rw [Heap.upd_other _ _ (hxb xb ⟨_, _, _, h2⟩)]; exact h1, h2, h3⟩
            · rw [Heap.upd_other _ _ hdb]
              exact s3 d r hd hnb
          have hq2 := hq
          rcases hq with ⟨-, rfl⟩ | ⟨qb, qi, qrow, -, rfl, -⟩
          all_goals
            simp -implicitDefEqProofs only [go_sem, ↓reduceIte, Nat.reduceEqDiff, Nat.reduceAdd, Nat.reduceSub, Nat.reduceMul, Nat.reduceLeDiff, reduceCtorEq, Bool.false_eq_true, Nat.reduceLT, hb, eStep]
            rw [wrap_i64 (by omega) (by omega), e0]
            refine ⟨by omega, by omega, fun u2 hu2 => ?_⟩
            refine Stk.push hq2 st u2 el62 ze74 ni62 (by omega) (by omega) (eStep_size st) hu2 (by omega) fun x' H2 s1 s2 s3 => ?_
            have hb3 := s3 b _ hb hbq
            rcases id s1 with ⟨h, -⟩ | ⟨xb, xi, xrow, -, rfl, -⟩
            · simp at h
            simp -implicitDefEqProofs only [go_sem, ↓reduceIte, Nat.reduceEqDiff, Nat.reduceAdd, Nat.reduceSub, Nat.reduceMul, Nat.reduceLeDiff, reduceCtorEq, Bool.false_eq_true, Nat.reduceLT, aAppend, hb3]
            refine hK _ _ ⟨fin _ _ s1 s2 s3, ?_⟩ _ (by simp -implicitDefEqProofs only [go_sem, ↓reduceIte, Nat.reduceEqDiff, Nat.reduceAdd, Nat.reduceSub, Nat.reduceMul, Nat.reduceLeDiff, reduceCtorEq, Bool.false_eq_true, Nat.reduceLT, aAppend, eStep] <;> rfl)
            rfl
        rintro ρ' H' ⟨⟨x', k1, k2, k3, k4, k5⟩, rfl⟩
        refine ACode.seq ?_
        refine ACode.region [2, 3] rfl fun K1 hK => ?_
        simp -implicitDefEqProofs only [go_sem, ↓reduceIte, Nat.reduceEqDiff, Nat.reduceAdd, Nat.reduceSub, Nat.reduceMul, Nat.reduceLeDiff, reduceCtorEq, Bool.false_eq_true, Nat.reduceLT, aAppend, eStep]
        refine hK _ _ ?_ _ (by simp -implicitDefEqProofs only [go_sem, ↓reduceIte, Nat.reduceEqDiff, Nat.reduceAdd, Nat.reduceSub, Nat.reduceMul, Nat.reduceLeDiff, reduceCtorEq, Bool.false_eq_true, Nat.reduceLT]; rfl); clear hK K1
        refine ACode.ret ?_
        exact hk x' H' k1 k2 k3 k4 k5


/-- whetstone/history.History.Redo: of none -/
theorem c13o (b pb pi : Nat) (now : List Mod) (p : AV) (hp1 : p = .v (.slice none 0 0) ∨ p = .slr pb 3 pi pi) (q : AV) (h2 : q.size = 1) (H : Heap) (hb : H b = some (.box (.agg [.sl (now.map eMod), q, p]))) (K : AV → Heap → Prop) (hk : K (.tup [str [], int 3]) H) : ACalls Try.prog 13 [.bp b 0 []] H K := by
  refine ACalls.of_code Try.func13 rfl (by kernel_rfl) rfl (by simp [Try.ntmps13]) ?_
  rw [Try.ntmps13, Try.results13]; simp -implicitDefEqProofs only [go_sem, ↓reduceIte, Nat.reduceEqDiff, Nat.reduceAdd, Nat.reduceSub, Nat.reduceMul, Nat.reduceLeDiff, reduceCtorEq, Bool.false_eq_true, Nat.reduceLT, aAppend]
  refine ACode.seq ?_
  refine ACode.region [0] rfl fun K1 hK => ?_
  simp -implicitDefEqProofs only [go_sem, ↓reduceIte, Nat.reduceEqDiff, Nat.reduceAdd, Nat.reduceSub, Nat.reduceMul, Nat.reduceLeDiff, reduceCtorEq, Bool.false_eq_true, Nat.reduceLT, aAppend]
  refine hK _ _ ?_ _ (by simp -implicitDefEqProofs only [go_sem, ↓reduceIte, Nat.reduceEqDiff, Nat.reduceAdd, Nat.reduceSub, Nat.reduceMul, Nat.reduceLeDiff, reduceCtorEq, Bool.false_eq_true, Nat.reduceLT]; rfl); clear hK K1
  refine ACode.seq ?_
  refine ACode.block ?_
  refine ACode.seq ?_
  refine ACode.region [0, 7] rfl fun K1 hK => ?_
  simp -implicitDefEqProofs only [go_sem, ↓reduceIte, Nat.reduceEqDiff, Nat.reduceAdd, Nat.reduceSub, Nat.reduceMul, Nat.reduceLeDiff, reduceCtorEq, Bool.false_eq_true, Nat.reduceLT, aAppend]
  refine hK _ _ ?_ _ (by simp -implicitDefEqProofs only [go_sem, ↓reduceIte, Nat.reduceEqDiff, Nat.reduceAdd, Nat.reduceSub, Nat.reduceMul, Nat.reduceLeDiff, reduceCtorEq, Bool.false_eq_true, Nat.reduceLT]; rfl); clear hK K1
  refine ACode.cond rfl (fun h => ?_) (fun h => ?_)
  · -- yes
    cases h
  · -- no
    try simp only [decide_eq_false_iff_not] at h
    refine ACode.seq ?_
    refine ACode.region_cut [0, 10] (fun ρ' H1 => H1 = H ∧ ρ' = [(0, .bp b 0 []), (10, boo true)]) rfl (fun K1 hK => ?_) ?_
    · rcases hp1 with rfl | rfl
      · simp -implicitDefEqProofs only [go_sem, ↓reduceIte, Nat.reduceEqDiff, Nat.reduceAdd, Nat.reduceSub, Nat.reduceMul, Nat.reduceLeDiff, reduceCtorEq, Bool.false_eq_true, Nat.reduceLT, aAppend, hb, h2]
        refine hK _ _ ⟨rfl, rfl⟩ _ (by simp -implicitDefEqProofs only [go_sem, ↓reduceIte, Nat.reduceEqDiff, Nat.reduceAdd, Nat.reduceSub, Nat.reduceMul, Nat.reduceLeDiff, reduceCtorEq, Bool.false_eq_true, Nat.reduceLT, aAppend] <;> rfl)
      · simp -implicitDefEqProofs only [go_sem, ↓reduceIte, Nat.reduceEqDiff, Nat.reduceAdd, Nat.reduceSub, Nat.reduceMul, Nat.reduceLeDiff, reduceCtorEq, Bool.false_eq_true, Nat.reduceLT, aAppend, hb, h2]
        have e1 : ((pi - pi : Nat) : Int) = 0 := by omega
        rw [e1]
        refine hK _ _ ⟨rfl, rfl⟩ _ (by simp -implicitDefEqProofs only [go_sem, ↓reduceIte, Nat.reduceEqDiff, Nat.reduceAdd, Nat.reduceSub, Nat.reduceMul, Nat.reduceLeDiff, reduceCtorEq, Bool.false_eq_true, Nat.reduceLT, aAppend] <;> rfl)
    rintro ρ' H1 ⟨rfl, rfl⟩
    refine ACode.cond rfl (fun h => ?_) (fun h => ?_)
    · -- yes
      try simp only [decide_eq_true_eq] at h
      refine ACode.seq ?_
      refine ACode.region [2, 3] rfl fun K1 hK => ?_
      simp -implicitDefEqProofs only [go_sem, ↓reduceIte, Nat.reduceEqDiff, Nat.reduceAdd, Nat.reduceSub, Nat.reduceMul, Nat.reduceLeDiff, reduceCtorEq, Bool.false_eq_true, Nat.reduceLT, aAppend]
      refine hK _ _ ?_ _ (by simp -implicitDefEqProofs only [go_sem, ↓reduceIte, Nat.reduceEqDiff, Nat.reduceAdd, Nat.reduceSub, Nat.reduceMul, Nat.reduceLeDiff, reduceCtorEq, Bool.false_eq_true, Nat.reduceLT]; rfl); clear hK K1
      refine ACode.ret ?_
      exact hk
    · -- no
      cases h


/-- whetstone/history.History.Redo: of some steps -/
theorem c13s (h34 : Edit34) (N : Nat) (hN : N ≤ 100000) (b pb pi : Nat) (now : List Mod) (prow ps next : List Step) (st : Step) (q : AV) (H : Heap)
    (hb : H b = some (.box (.agg [.sl (now.map eMod), q, .slr pb 3 pi (pi + (ps.length + 1))])))
    (hpb : H pb = some (.arr 3 (prow.map eStep))) (hj : pi + (ps.length + 1) ≤ prow.length) (hst : prow[pi + ps.length]? = some st) (hq : Stk eStep 3 N H next q) (hqb : ¬ blk q pb) (hpN : prow.length ≤ 100000)
    (hl : now.length ≤ 1000000) (hcl : st.go.length ≤ 1000000) (hce : ∀ c ∈ st.go, c.Edits.length ≤ 1000000) (hroom : Roomy now st.go) (he : (applyC now [] st.go).2 = 0)
    (K : AV → Heap → Prop) (hk : ∀ x' H', H' b = some (.box (.agg [.sl ((applyC now [] st.go).1.map eMod), x', .slr pb 3 pi (pi + ps.length)])) → H' pb = some (.arr 3 (prow.map eStep)) → Stk eStep 3 (N + 1) H' (next ++ [st]) x' → (∀ d, blk x' d → blk q d ∨ H d = none) → (∀ d r, H d = some r → d ≠ b → ¬ blk q d → H' d = some r) → K (.tup [str st.note, int 0]) H') :
    ACalls Try.prog 13 [.bp b 0 []] H K := by
  have e0 : ((pi + (ps.length + 1) - pi : Nat) : Int) - 1 = (ps.length : Int) := by omega
  have hbp : b ≠ pb := fun e => by subst e; rw [hb] at hpb; cases hpb
  have hqs : q.size = 1 := by rcases hq with ⟨-, rfl⟩ | ⟨qb, qi, qrow, -, rfl, -⟩ <;> rfl
  refine ACalls.of_code Try.func13 rfl (by kernel_rfl) rfl (by simp [Try.ntmps13]) ?_
  rw [Try.ntmps13, Try.results13]; simp -implicitDefEqProofs only [go_sem, ↓reduceIte, Nat.reduceEqDiff, Nat.reduceAdd, Nat.reduceSub, Nat.reduceMul, Nat.reduceLeDiff, reduceCtorEq, Bool.false_eq_true, Nat.reduceLT, aAppend]
  refine ACode.seq ?_
  refine ACode.region [0] rfl fun K1 hK => ?_
  simp -implicitDefEqProofs only [go_sem, ↓reduceIte, Nat.reduceEqDiff, Nat.reduceAdd, Nat.reduceSub, Nat.reduceMul, Nat.reduceLeDiff, reduceCtorEq, Bool.false_eq_true, Nat.reduceLT, aAppend]
  refine hK _ _ ?_ _ (by simp -implicitDefEqProofs only [go_sem, ↓reduceIte, Nat.reduceEqDiff, Nat.reduceAdd, Nat.reduceSub, Nat.reduceMul, Nat.reduceLeDiff, reduceCtorEq, Bool.false_eq_true, Nat.reduceLT]; rfl); clear hK K1
  refine ACode.seq ?_
  refine ACode.block ?_
  refine ACode.seq ?_
  refine ACode.region [0, 7] rfl fun K1 hK => ?_
  simp -implicitDefEqProofs only [go_sem, ↓reduceIte, Nat.reduceEqDiff, Nat.reduceAdd, Nat.reduceSub, Nat.reduceMul, Nat.reduceLeDiff, reduceCtorEq, Bool.false_eq_true, Nat.reduceLT, aAppend]
  refine hK _ _ ?_ _ (by simp -implicitDefEqProofs only [go_sem, ↓reduceIte, Nat.reduceEqDiff, Nat.reduceAdd, Nat.reduceSub, Nat.reduceMul, Nat.reduceLeDiff, reduceCtorEq, Bool.false_eq_true, Nat.reduceLT]; rfl); clear hK K1
  refine ACode.cond rfl (fun h => ?_) (fun h => ?_)
  · -- yes
    cases h
  · -- no
    try simp only [decide_eq_false_iff_not] at h
    refine ACode.seq ?_
    refine ACode.region [0, 10] rfl fun K1 hK => ?_
    simp -implicitDefEqProofs only [go_sem, ↓reduceIte, Nat.reduceEqDiff, Nat.reduceAdd, Nat.reduceSub, Nat.reduceMul, Nat.reduceLeDiff, reduceCtorEq, Bool.false_eq_true, Nat.reduceLT, aAppend, hb, hqs]
    refine hK _ _ ?_ _ (by simp -implicitDefEqProofs only [go_sem, ↓reduceIte, Nat.reduceEqDiff, Nat.reduceAdd, Nat.reduceSub, Nat.reduceMul, Nat.reduceLeDiff, reduceCtorEq, Bool.false_eq_true, Nat.reduceLT]; rfl); clear hK K1
    refine ACode.cond rfl (fun h => ?_) (fun h => ?_)
    · -- yes
      simp only [decide_eq_true_eq] at h; omega
    · -- no
      try simp only [decide_eq_false_iff_not] at h
      refine ACode.skip ?_
      refine ACode.seq ?_
      refine ACode.region_draw [0, 4] [(0, 0), (1, 0), (2, 0), (4, 0), (5, 0), (6, 0), (3, 1), (7, 1), (8, 0), (9, 0), (10, 0), (11, 1), (12, 2), (13, 2)] (by kernel_rfl) (by kernel_rfl) rfl (by kernel_rfl) fun K1 hK => ?_
      simp -implicitDefEqProofs only [go_sem, ↓reduceIte, Nat.reduceEqDiff, Nat.reduceAdd, Nat.reduceSub, Nat.reduceMul, Nat.reduceLeDiff, reduceCtorEq, Bool.false_eq_true, Nat.reduceLT, aAppend, hb, hqs]
      rw [wrap_i64 (by omega) (by omega), e0]
      simp -implicitDefEqProofs only [go_sem, ↓reduceIte, Nat.reduceEqDiff, Nat.reduceAdd, Nat.reduceSub, Nat.reduceMul, Nat.reduceLeDiff, reduceCtorEq, Bool.false_eq_true, Nat.reduceLT, aAppend, hpb, hst, eStep]
      refine ⟨by omega, fun u hu => ?_⟩
      refine hK _ _ ?_ _ (by simp -implicitDefEqProofs only [go_sem, ↓reduceIte, Nat.reduceEqDiff, Nat.reduceAdd, Nat.reduceSub, Nat.reduceMul, Nat.reduceLeDiff, reduceCtorEq, Bool.false_eq_true, Nat.reduceLT]; rfl); clear hK K1
      refine ACode.freeze1 u 4 (Heap.upd_same _ _ _) ?_
      simp -implicitDefEqProofs only [go_sem, ↓reduceIte, Nat.reduceEqDiff, Nat.reduceAdd, Nat.reduceSub, Nat.reduceMul, Nat.reduceLeDiff, reduceCtorEq, Bool.false_eq_true, Nat.reduceLT, aAppend, Heap.erase_upd_same _ u _ hu]
      refine ACode.seq ?_
      refine ACode.region_draw [0, 4, 5, 6] [(0, 0), (1, 0), (2, 0), (4, 0), (3, 1), (5, 1), (6, 2), (7, 0), (8, 0), (9, 0), (10, 0), (11, 0)] (by kernel_rfl) (by kernel_rfl) rfl (by kernel_rfl) fun K1 hK => ?_
      simp -implicitDefEqProofs only [go_sem, ↓reduceIte, Nat.reduceEqDiff, Nat.reduceAdd, Nat.reduceSub, Nat.reduceMul, Nat.reduceLeDiff, reduceCtorEq, Bool.false_eq_true, Nat.reduceLT, aAppend, hb, hqs]
      refine c23 h34 now st.go hl hcl hce hroom _ _ ?_
      simp -implicitDefEqProofs only [go_sem, ↓reduceIte, Nat.reduceEqDiff, Nat.reduceAdd, Nat.reduceSub, Nat.reduceMul, Nat.reduceLeDiff, reduceCtorEq, Bool.false_eq_true, Nat.reduceLT, aAppend]
      refine hK _ _ ?_ _ (by simp -implicitDefEqProofs only [go_sem, ↓reduceIte, Nat.reduceEqDiff, Nat.reduceAdd, Nat.reduceSub, Nat.reduceMul, Nat.reduceLeDiff, reduceCtorEq, Bool.false_eq_true, Nat.reduceLT]; rfl); clear hK K1
      rw [he]
      refine ACode.seq ?_
      refine ACode.seq ?_
      refine ACode.region [0, 4, 5, 6, 40] rfl fun K1 hK => ?_
      simp -implicitDefEqProofs only [go_sem, ↓reduceIte, Nat.reduceEqDiff, Nat.reduceAdd, Nat.reduceSub, Nat.reduceMul, Nat.reduceLeDiff, reduceCtorEq, Bool.false_eq_true, Nat.reduceLT, aAppend]
      refine hK _ _ ?_ _ (by simp -implicitDefEqProofs only [go_sem, ↓reduceIte, Nat.reduceEqDiff, Nat.reduceAdd, Nat.reduceSub, Nat.reduceMul, Nat.reduceLeDiff, reduceCtorEq, Bool.false_eq_true, Nat.reduceLT]; rfl); clear hK K1
      refine ACode.cond rfl (fun h => ?_) (fun h => ?_)
      · -- yes
        exact absurd h (by simp)
      · -- no
        try simp only [decide_eq_false_iff_not] at h
        refine ACode.skip ?_
        refine ACode.seq ?_
        refine ACode.draw_cut [4] [(0, 0), (1, 0), (2, 0), (3, 0), (4, 0), (5, 0), (6, 0), (8, 0), (9, 0), (10, 0), (15, 0), (16, 0), (17, 0), (18, 1), (19, 1), (7, 4), (11, 4), (12, 0), (13, 0), (14, 0), (20, 2), (21, 2), (22, 0), (23, 0), (24, 2), (25, 0), (26, 0), (27, 2), (28, 0), (29, 0), (30, 2)] (fun ρ' H' => (∃ x', H' b = some (.box (.agg [.sl ((applyC now [] st.go).1.map eMod), x', .slr pb 3 pi (pi + ps.length)])) ∧ H' pb = some (.arr 3 (prow.map eStep)) ∧ Stk eStep 3 (N + 1) H' (next ++ [st]) x' ∧ (∀ d, blk x' d → blk q d ∨ H d = none) ∧ (∀ d r, H d = some r → d ≠ b → ¬ blk q d → H' d = some r)) ∧ ρ' = [(4, .ip (eStep st))]) (by kernel_rfl) (by kernel_rfl) rfl (by kernel_rfl) (fun K1 hK => ?_) ?_
        · have hnq : ∀ d, blk q d → d ≠ b := fun d hd e => by
            subst e
            rcases hq with ⟨-, rfl⟩ | ⟨qb, qi, qrow, h1, rfl, -⟩
            · obtain ⟨_, _, _, h⟩ := hd; cases h
            · obtain ⟨_, _, _, h⟩ := hd; cases h; rw [hb] at h1; cases h1
          have hbq : ¬ blk q b := fun h => hnq b h rfl
          have fin : ∀ x' H2, Stk eStep 3 (N + 1) H2 (next ++ [st]) x' → (∀ d, blk x' d → blk q d ∨ H d = none) →
              (∀ d r, H d = some r → ¬ blk q d → H2 d = some r) →
              ∃ y, (H2.upd b (.box (.agg [.sl ((applyC now [] st.go).1.map eMod), x', .slr pb 3 pi (pi + ps.length)]))) b = some (.box (.agg [.sl ((applyC now [] st.go).1.map eMod), y, .slr pb 3 pi (pi + ps.length)])) ∧ (H2.upd b (.box (.agg [.sl ((applyC now [] st.go).1.map eMod), x', .slr pb 3 pi (pi + ps.length)]))) pb = some (.arr 3 (prow.map eStep)) ∧ Stk eStep 3 (N + 1) (H2.upd b (.box (.agg [.sl ((applyC now [] st.go).1.map eMod), x', .slr pb 3 pi (pi + ps.length)]))) (next ++ [st]) y ∧ (∀ d, blk y d → blk q d ∨ H d = none) ∧ (∀ d r, H d = some r → d ≠ b → ¬ blk q d → (H2.upd b (.box (.agg [.sl ((applyC now [] st.go).1.map eMod), x', .slr pb 3 pi (pi + ps.length)]))) d = some r) := fun x' H2 s1 s2 s3 => by
            have hxb : ∀ d, blk x' d → d ≠ b := fun d hd e => by
              subst e
              rcases s2 d hd with h | h
              · exact hnq d h rfl
              · rw [hb] at h; cases h
            refine ⟨x', Heap.upd_same _ _ _, ?_, ?_, s2, fun d r hd hdb hnb => ?_⟩
            · rw [Heap.upd_other _ _ (Ne.symm hbp)]
              exact s3 pb _ hpb hqb
            · rcases s1 with ⟨h1, h2⟩ | ⟨xb, xi, xrow, h1, h2, h3⟩
              · exact .inl ⟨h1, h2⟩
              · exact .inr ⟨xb, xi, xrow, by rw [Heap.upd_other _ _ (hxb xb ⟨_, _, _, h2⟩)]; exact h1, h2, h3⟩
            · rw [Heap.upd_other _ _ hdb]
              exact s3 d r hd hnb
          have hq2 := hq
          rcases hq with ⟨-, rfl⟩ | ⟨qb, qi, qrow, -, rfl, -⟩
          all_goals
            simp -implicitDefEqProofs only [go_sem, ↓reduceIte, Nat.reduceEqDiff, Nat.reduceAdd, Nat.reduceSub, Nat.reduceMul, Nat.reduceLeDiff, reduceCtorEq, Bool.false_eq_true, Nat.reduceLT, hb, eStep]
            rw [wrap_i64 (by omega) (by omega), e0]
            refine ⟨by omega, by omega, fun u2 hu2 => ?_⟩
            refine Stk.push hq2 st u2 el62 ze74 ni62 (by omega) (by omega) (eStep_size st) hu2 (by omega) fun x' H2 s1 s2 s3 => ?_
            have hb3 := s3 b _ hb hbq
            rcases id s1 with ⟨h, -⟩ | ⟨xb, xi, xrow, -, rfl, -⟩
            · simp at h
            simp -implicitDefEqProofs only [go_sem, ↓reduceIte, Nat.reduceEqDiff, Nat.reduceAdd, Nat.reduceSub, Nat.reduceMul, Nat.reduceLeDiff, reduceCtorEq, Bool.false_eq_true, Nat.reduceLT, aAppend, hb3]
            refine hK _ _ ⟨fin _ _ s1 s2 s3, ?_⟩ _ (by simp -implicitDefEqProofs only [go_sem, ↓reduceIte, Nat.reduceEqDiff, Nat.reduceAdd, Nat.reduceSub, Nat.reduceMul, Nat.reduceLeDiff, reduceCtorEq, Bool.false_eq_true, Nat.reduceLT, aAppend, eStep] <;> rfl)
            rfl
        rintro ρ' H' ⟨⟨x', k1, k2, k3, k4, k5⟩, rfl⟩
        refine ACode.seq ?_
        refine ACode.region [2, 3] rfl fun K1 hK => ?_
        simp -implicitDefEqProofs only [go_sem, ↓reduceIte, Nat.reduceEqDiff, Nat.reduceAdd, Nat.reduceSub, Nat.reduceMul, Nat.reduceLeDiff, reduceCtorEq, Bool.false_eq_true, Nat.reduceLT, aAppend, eStep]
        refine hK _ _ ?_ _ (by simp -implicitDefEqProofs only [go_sem, ↓reduceIte, Nat.reduceEqDiff, Nat.reduceAdd, Nat.reduceSub, Nat.reduceMul, Nat.reduceLeDiff, reduceCtorEq, Bool.false_eq_true, Nat.reduceLT]; rfl); clear hK K1
        refine ACode.ret ?_
        exact hk x' H' k1 k2 k3 k4 k5


end Go.Flow

