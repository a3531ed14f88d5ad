/-
  The law, walked: it answers true. No condition but sizes.
-/
import Derived.Test.YtlcggoafbafldaaHistX
set_option linter.unusedVariables false
set_option linter.unusedSimpArgs false
set_option maxRecDepth 20000
namespace Go.Flow
open Go Go.Proofs

theorem LoopSt.base {H0 H : Heap} {b1 b2 k : Nat} (h : LoopSt H0 b1 b2 k H) : Heap.le H0 H := by
  obtain ⟨a, P, N, F1, F2, hI, hP, hR, hT⟩ := h
  exact hT.le

theorem LoopSt.start {H : Heap} {l : List Mod} {b1 b2 p : Nat} (hb1 : H b1 = none) (hp : (H.upd b1 (.box (.agg [.sl ((sortMods l).map eMod), .v (.slice none 0 0), .v (.slice none 0 0)]))) p = none)
    (hb2 : (H.upd b1 (.box (.agg [.sl ((sortMods l).map eMod), .v (.slice none 0 0), .v (.slice none 0 0)]))) b2 = none) (hne : b2 ≠ p) (hl : l.length ≤ 20) (hs : ∀ m ∈ l, (m.Text.length : Int) ≤ 500) :
    LoopSt H b1 b2 0 (((H.upd b1 (.box (.agg [.sl ((sortMods l).map eMod), .v (.slice none 0 0), .v (.slice none 0 0)]))).upd p (.arr 2 [eState ⟨[], sortMods l⟩])).upd b2 (.box (.agg [.slr p 2 0 1, .v (.slice none 0 0)]))) := by
  have hp1 : p ≠ b1 := fun e => by subst e; rw [Heap.upd_same] at hp; cases hp
  have h21 : b2 ≠ b1 := fun e => by subst e; rw [Heap.upd_same] at hb2; cases hb2
  have hp0 : H p = none := by rwa [Heap.upd_other _ _ hp1] at hp
  have h20 : H b2 = none := by rwa [Heap.upd_other _ _ h21] at hb2
  refine ⟨⟨[], sortMods l⟩, [], [], (fun d => d = b1), (fun d => d = b2 ∨ d = p), ⟨trivial, fun st hst => ?_, by simp⟩, ?_, ?_, ⟨?_, ?_, ?_⟩⟩
  · rcases hst with rfl | ⟨x, hx, _⟩
    · exact ⟨fun m hm => by have := hs m (sortMods_mem hm); omega, by rw [sortMods_length]; exact hl⟩
    · simp at hx
  · refine ((PAt.new (now := sortMods l) hb1).grow (M := 200 + 0) (by omega)).keep fun d r hd hr => ?_
    subst hd
    rw [Heap.upd_other _ _ (Ne.symm h21), Heap.upd_other _ _ (Ne.symm hp1)]; exact hr
  · refine ⟨_, _, Heap.upd_same _ _ _, .inr ⟨p, 0, [⟨[], sortMods l⟩], ?_, rfl, by simp, rfl, by simp⟩, .inl ⟨rfl, rfl⟩, fun h => hne (blk_slr.1 h), blk_nil, fun _ _ h => blk_nil h, fun d => ?_⟩
    · rw [Heap.upd_other _ _ (Ne.symm hne)]; exact Heap.upd_same _ _ _
    · rw [blk_slr]; exact ⟨fun h => h.imp id .inl, fun h => h.imp id fun h => h.resolve_right blk_nil⟩
  · rintro d rfl (h | h)
    · exact h21 h.symm
    · exact hp1 h.symm
  · rintro d (rfl | rfl | rfl) <;> assumption
  · intro d r hr
    have n1 : d ≠ b1 := fun e => by subst e; rw [hb1] at hr; cases hr
    have n2 : d ≠ b2 := fun e => by subst e; rw [h20] at hr; cases hr
    have n3 : d ≠ p := fun e => by subst e; rw [hp0] at hr; cases hr
    rw [Heap.upd_other _ _ n2, Heap.upd_other _ _ n3, Heap.upd_other _ _ n1]; exact hr

/-- sizes that memory takes -/
def OpSized (o : OpV) : Prop := o.Note.length ≤ 140737488355328 ∧ o.L.length ≤ 140737488355328 ∧ ∀ c ∈ o.L, c.Edits.length ≤ 140737488355328 ∧ ∀ x ∈ c.Edits, x.Text.length ≤ 140737488355328

/-- whetstone/whetstonelaw31.HistoryPlays: of modules that are too great -/
theorem c3n (l : List Mod) (ops : AV) (hl : l.length ≤ 140737488355328) (hs : ∀ m ∈ l, m.Name.length ≤ 140737488355328 ∧ m.Text.length ≤ 140737488355328) (hL : Light l 500 = false)
    (H : Heap) (K : AV → Heap → Prop) (hk : K (boo true) H) : ACalls Try.prog 3 [.sl (l.map eMod), ops] H K := by
  refine ACalls.of_code Try.func3 rfl (by kernel_rfl) rfl (by simp [Try.ntmps3]) ?_
  rw [Try.ntmps3, Try.results3]; simp -implicitDefEqProofs only [go_sem, ↓reduceIte, Nat.reduceEqDiff, Nat.reduceAdd, Nat.reduceSub, Nat.reduceMul, Nat.reduceLeDiff, reduceCtorEq, Bool.false_eq_true, Nat.reduceLT, aAppend]
  refine ACode.seq ?_
  refine ACode.region [0] rfl fun K1 hK => ?_
  simp -implicitDefEqProofs only [go_sem, ↓reduceIte, Nat.reduceEqDiff, Nat.reduceAdd, Nat.reduceSub, Nat.reduceMul, Nat.reduceLeDiff, reduceCtorEq, Bool.false_eq_true, Nat.reduceLT, aAppend]
  refine hK _ _ ?_ _ (by simp -implicitDefEqProofs only [go_sem, ↓reduceIte, Nat.reduceEqDiff, Nat.reduceAdd, Nat.reduceSub, Nat.reduceMul, Nat.reduceLeDiff, reduceCtorEq, Bool.false_eq_true, Nat.reduceLT]; rfl); clear hK K1
  refine ACode.seq ?_
  refine ACode.seq ?_
  refine ACode.region [0, 1, 23] rfl fun K1 hK => ?_
  simp -implicitDefEqProofs only [go_sem, ↓reduceIte, Nat.reduceEqDiff, Nat.reduceAdd, Nat.reduceSub, Nat.reduceMul, Nat.reduceLeDiff, reduceCtorEq, Bool.false_eq_true, Nat.reduceLT, aAppend]
  refine c4 l 500 (by omega) (by omega) hl hs _ _ ?_
  rw [hL]
  simp -implicitDefEqProofs only [go_sem, ↓reduceIte, Nat.reduceEqDiff, Nat.reduceAdd, Nat.reduceSub, Nat.reduceMul, Nat.reduceLeDiff, reduceCtorEq, Bool.false_eq_true, Nat.reduceLT, aAppend]
  refine hK _ _ ?_ _ (by simp -implicitDefEqProofs only [go_sem, ↓reduceIte, Nat.reduceEqDiff, Nat.reduceAdd, Nat.reduceSub, Nat.reduceMul, Nat.reduceLeDiff, reduceCtorEq, Bool.false_eq_true, Nat.reduceLT]; rfl); clear hK K1
  refine ACode.cond rfl (fun h => ?_) (fun h => ?_)
  · -- yes
    try simp only [decide_eq_true_eq] at h
    refine ACode.seq ?_
    refine ACode.region [4] rfl fun K1 hK => ?_
    simp -implicitDefEqProofs only [go_sem, ↓reduceIte, Nat.reduceEqDiff, Nat.reduceAdd, Nat.reduceSub, Nat.reduceMul, Nat.reduceLeDiff, reduceCtorEq, Bool.false_eq_true, Nat.reduceLT, aAppend]
    refine c5 H _ ?_
    simp -implicitDefEqProofs only [go_sem, ↓reduceIte, Nat.reduceEqDiff, Nat.reduceAdd, Nat.reduceSub, Nat.reduceMul, Nat.reduceLeDiff, reduceCtorEq, Bool.false_eq_true, Nat.reduceLT, aAppend]
    refine hK _ _ ?_ _ (by simp -implicitDefEqProofs only [go_sem, ↓reduceIte, Nat.reduceEqDiff, Nat.reduceAdd, Nat.reduceSub, Nat.reduceMul, Nat.reduceLeDiff, reduceCtorEq, Bool.false_eq_true, Nat.reduceLT]; rfl); clear hK K1
    refine ACode.ret ?_
    exact hk
  · -- no
    cases h


/-- whetstone/whetstonelaw31.HistoryPlays: of modules two of which have one name -/
theorem c3a (l : List Mod) (ops : List OpV) (hl : l.length ≤ 140737488355328) (hs : ∀ m ∈ l, m.Name.length ≤ 140737488355328 ∧ m.Text.length ≤ 140737488355328) (hL : Light l 500 = true) (ha : apartMods (sortMods l) = false)
    (H : Heap) (K : AV → Heap → Prop) (hk : K (boo true) H) : ACalls Try.prog 3 [.sl (l.map eMod), .sl (ops.map eOp)] H K := by
  have hl20 : l.length ≤ 20 := by simp only [Light, Bool.and_eq_true, decide_eq_true_eq] at hL; exact hL.2
  refine ACalls.of_code Try.func3 rfl (by kernel_rfl) rfl (by simp [Try.ntmps3]) ?_
  rw [Try.ntmps3, Try.results3]; simp -implicitDefEqProofs only [go_sem, ↓reduceIte, Nat.reduceEqDiff, Nat.reduceAdd, Nat.reduceSub, Nat.reduceMul, Nat.reduceLeDiff, reduceCtorEq, Bool.false_eq_true, Nat.reduceLT, aAppend]
  refine ACode.seq ?_
  refine ACode.region [0, 1] rfl fun K1 hK => ?_
  simp -implicitDefEqProofs only [go_sem, ↓reduceIte, Nat.reduceEqDiff, Nat.reduceAdd, Nat.reduceSub, Nat.reduceMul, Nat.reduceLeDiff, reduceCtorEq, Bool.false_eq_true, Nat.reduceLT, aAppend]
  refine hK _ _ ?_ _ (by simp -implicitDefEqProofs only [go_sem, ↓reduceIte, Nat.reduceEqDiff, Nat.reduceAdd, Nat.reduceSub, Nat.reduceMul, Nat.reduceLeDiff, reduceCtorEq, Bool.false_eq_true, Nat.reduceLT]; rfl); clear hK K1
  refine ACode.seq ?_
  refine ACode.seq ?_
  refine ACode.region [0, 1, 23] rfl fun K1 hK => ?_
  simp -implicitDefEqProofs only [go_sem, ↓reduceIte, Nat.reduceEqDiff, Nat.reduceAdd, Nat.reduceSub, Nat.reduceMul, Nat.reduceLeDiff, reduceCtorEq, Bool.false_eq_true, Nat.reduceLT, aAppend]
  refine c4 l 500 (by omega) (by omega) hl hs _ _ ?_
  rw [hL]
  simp -implicitDefEqProofs only [go_sem, ↓reduceIte, Nat.reduceEqDiff, Nat.reduceAdd, Nat.reduceSub, Nat.reduceMul, Nat.reduceLeDiff, reduceCtorEq, Bool.false_eq_true, Nat.reduceLT, aAppend]
  refine hK _ _ ?_ _ (by simp -implicitDefEqProofs only [go_sem, ↓reduceIte, Nat.reduceEqDiff, Nat.reduceAdd, Nat.reduceSub, Nat.reduceMul, Nat.reduceLeDiff, reduceCtorEq, Bool.false_eq_true, Nat.reduceLT]; rfl); clear hK K1
  refine ACode.cond rfl (fun h => ?_) (fun h => ?_)
  · -- yes
    cases h
  · -- no
    try simp only [decide_eq_false_iff_not] at h
    refine ACode.skip ?_
    refine ACode.seq ?_
    refine ACode.region [0, 1, 5, 6] rfl fun K1 hK => ?_
    simp -implicitDefEqProofs only [go_sem, ↓reduceIte, Nat.reduceEqDiff, Nat.reduceAdd, Nat.reduceSub, Nat.reduceMul, Nat.reduceLeDiff, reduceCtorEq, Bool.false_eq_true, Nat.reduceLT, aAppend]
    refine c6 l hl20 _ _ (fun _ => ?_) (fun h => by rw [ha] at h; cases h)
    simp -implicitDefEqProofs only [go_sem, ↓reduceIte, Nat.reduceEqDiff, Nat.reduceAdd, Nat.reduceSub, Nat.reduceMul, Nat.reduceLeDiff, reduceCtorEq, Bool.false_eq_true, Nat.reduceLT, aAppend]
    refine hK _ _ ?_ _ (by simp -implicitDefEqProofs only [go_sem, ↓reduceIte, Nat.reduceEqDiff, Nat.reduceAdd, Nat.reduceSub, Nat.reduceMul, Nat.reduceLeDiff, reduceCtorEq, Bool.false_eq_true, Nat.reduceLT]; rfl); clear hK K1
    refine ACode.seq ?_
    refine ACode.region [1, 5, 6, 7, 8] rfl fun K1 hK => ?_
    simp -implicitDefEqProofs only [go_sem, ↓reduceIte, Nat.reduceEqDiff, Nat.reduceAdd, Nat.reduceSub, Nat.reduceMul, Nat.reduceLeDiff, reduceCtorEq, Bool.false_eq_true, Nat.reduceLT, aAppend]
    refine c7 l hl20 _ _ (fun _ => ?_) (fun h => by rw [ha] at h; cases h)
    simp -implicitDefEqProofs only [go_sem, ↓reduceIte, Nat.reduceEqDiff, Nat.reduceAdd, Nat.reduceSub, Nat.reduceMul, Nat.reduceLeDiff, reduceCtorEq, Bool.false_eq_true, Nat.reduceLT, aAppend]
    refine hK _ _ ?_ _ (by simp -implicitDefEqProofs only [go_sem, ↓reduceIte, Nat.reduceEqDiff, Nat.reduceAdd, Nat.reduceSub, Nat.reduceMul, Nat.reduceLeDiff, reduceCtorEq, Bool.false_eq_true, Nat.reduceLT]; rfl); clear hK K1
    refine ACode.seq ?_
    refine ACode.seq ?_
    refine ACode.region [1, 5, 7, 44] rfl fun K1 hK => ?_
    simp -implicitDefEqProofs only [go_sem, ↓reduceIte, Nat.reduceEqDiff, Nat.reduceAdd, Nat.reduceSub, Nat.reduceMul, Nat.reduceLeDiff, reduceCtorEq, Bool.false_eq_true, Nat.reduceLT, aAppend, Bool.not_true, Bool.not_false]
    refine hK _ _ ?_ _ (by simp -implicitDefEqProofs only [go_sem, ↓reduceIte, Nat.reduceEqDiff, Nat.reduceAdd, Nat.reduceSub, Nat.reduceMul, Nat.reduceLeDiff, reduceCtorEq, Bool.false_eq_true, Nat.reduceLT]; rfl); clear hK K1
    refine ACode.cond rfl (fun h => ?_) (fun h => ?_)
    · -- yes
      cases h
    · -- no
      try simp only [decide_eq_false_iff_not] at h
      refine ACode.skip ?_
      refine ACode.seq ?_
      refine ACode.seq ?_
      refine ACode.region [1, 5, 7, 46] rfl fun K1 hK => ?_
      simp -implicitDefEqProofs only [go_sem, ↓reduceIte, Nat.reduceEqDiff, Nat.reduceAdd, Nat.reduceSub, Nat.reduceMul, Nat.reduceLeDiff, reduceCtorEq, Bool.false_eq_true, Nat.reduceLT, aAppend]
      refine hK _ _ ?_ _ (by simp -implicitDefEqProofs only [go_sem, ↓reduceIte, Nat.reduceEqDiff, Nat.reduceAdd, Nat.reduceSub, Nat.reduceMul, Nat.reduceLeDiff, reduceCtorEq, Bool.false_eq_true, Nat.reduceLT]; rfl); clear hK K1
      refine ACode.cond rfl (fun h => ?_) (fun h => ?_)
      · -- yes
        try simp only [decide_eq_true_eq] at h
        refine ACode.seq ?_
        refine ACode.region [4] rfl fun K1 hK => ?_
        simp -implicitDefEqProofs only [go_sem, ↓reduceIte, Nat.reduceEqDiff, Nat.reduceAdd, Nat.reduceSub, Nat.reduceMul, Nat.reduceLeDiff, reduceCtorEq, Bool.false_eq_true, Nat.reduceLT, aAppend]
        refine c5 H _ ?_
        simp -implicitDefEqProofs only [go_sem, ↓reduceIte, Nat.reduceEqDiff, Nat.reduceAdd, Nat.reduceSub, Nat.reduceMul, Nat.reduceLeDiff, reduceCtorEq, Bool.false_eq_true, Nat.reduceLT, aAppend]
        refine hK _ _ ?_ _ (by simp -implicitDefEqProofs only [go_sem, ↓reduceIte, Nat.reduceEqDiff, Nat.reduceAdd, Nat.reduceSub, Nat.reduceMul, Nat.reduceLeDiff, reduceCtorEq, Bool.false_eq_true, Nat.reduceLT]; rfl); clear hK K1
        refine ACode.ret ?_
        exact hk
      · -- no
        cases h


/-- whetstone/whetstonelaw31.HistoryPlays -/
theorem c3b (l : List Mod) (ops : List OpV) (hl : l.length ≤ 140737488355328) (hs : ∀ m ∈ l, m.Name.length ≤ 140737488355328 ∧ m.Text.length ≤ 140737488355328) (hol : ops.length ≤ 140737488355328) (hos : ∀ o ∈ ops, OpSized o)
    (hL : Light l 500 = true) (ha : apartMods (sortMods l) = true) (H : Heap) (K : AV → Heap → Prop) (hk : K (boo true) H) : ACalls Try.prog 3 [.sl (l.map eMod), .sl (ops.map eOp)] H K := by
  have hl20 : l.length ≤ 20 := by simp only [Light, Bool.and_eq_true, decide_eq_true_eq] at hL; exact hL.2
  have htx : ∀ m ∈ l, (m.Text.length : Int) ≤ 500 := by simp only [Light, Bool.and_eq_true, decide_eq_true_eq] at hL; exact lightFrom_spec l 0 500 hL.1 (by omega)
  refine ACalls.of_code Try.func3 rfl (by kernel_rfl) rfl (by simp [Try.ntmps3]) ?_
  rw [Try.ntmps3, Try.results3]; simp -implicitDefEqProofs only [go_sem, ↓reduceIte, Nat.reduceEqDiff, Nat.reduceAdd, Nat.reduceSub, Nat.reduceMul, Nat.reduceLeDiff, reduceCtorEq, Bool.false_eq_true, Nat.reduceLT, aAppend]
  refine ACode.seq ?_
  refine ACode.region [0, 1] rfl fun K1 hK => ?_
  simp -implicitDefEqProofs only [go_sem, ↓reduceIte, Nat.reduceEqDiff, Nat.reduceAdd, Nat.reduceSub, Nat.reduceMul, Nat.reduceLeDiff, reduceCtorEq, Bool.false_eq_true, Nat.reduceLT, aAppend]
  refine hK _ _ ?_ _ (by simp -implicitDefEqProofs only [go_sem, ↓reduceIte, Nat.reduceEqDiff, Nat.reduceAdd, Nat.reduceSub, Nat.reduceMul, Nat.reduceLeDiff, reduceCtorEq, Bool.false_eq_true, Nat.reduceLT]; rfl); clear hK K1
  refine ACode.seq ?_
  refine ACode.seq ?_
  refine ACode.region [0, 1, 23] rfl fun K1 hK => ?_
  simp -implicitDefEqProofs only [go_sem, ↓reduceIte, Nat.reduceEqDiff, Nat.reduceAdd, Nat.reduceSub, Nat.reduceMul, Nat.reduceLeDiff, reduceCtorEq, Bool.false_eq_true, Nat.reduceLT, aAppend]
  refine c4 l 500 (by omega) (by omega) hl hs _ _ ?_
  rw [hL]
  simp -implicitDefEqProofs only [go_sem, ↓reduceIte, Nat.reduceEqDiff, Nat.reduceAdd, Nat.reduceSub, Nat.reduceMul, Nat.reduceLeDiff, reduceCtorEq, Bool.false_eq_true, Nat.reduceLT, aAppend]
  refine hK _ _ ?_ _ (by simp -implicitDefEqProofs only [go_sem, ↓reduceIte, Nat.reduceEqDiff, Nat.reduceAdd, Nat.reduceSub, Nat.reduceMul, Nat.reduceLeDiff, reduceCtorEq, Bool.false_eq_true, Nat.reduceLT]; rfl); clear hK K1
  refine ACode.cond rfl (fun h => ?_) (fun h => ?_)
  · -- yes
    cases h
  · -- no
    try simp only [decide_eq_false_iff_not] at h
    refine ACode.skip ?_
    refine ACode.seq ?_
    refine ACode.region [0, 1, 5, 6] rfl fun K1 hK => ?_
    simp -implicitDefEqProofs only [go_sem, ↓reduceIte, Nat.reduceEqDiff, Nat.reduceAdd, Nat.reduceSub, Nat.reduceMul, Nat.reduceLeDiff, reduceCtorEq, Bool.false_eq_true, Nat.reduceLT, aAppend]
    refine c6 l hl20 _ _ (fun h => by rw [ha] at h; cases h) fun _ b1 hb1 => ?_
    simp -implicitDefEqProofs only [go_sem, ↓reduceIte, Nat.reduceEqDiff, Nat.reduceAdd, Nat.reduceSub, Nat.reduceMul, Nat.reduceLeDiff, reduceCtorEq, Bool.false_eq_true, Nat.reduceLT, aAppend]
    refine hK _ _ ?_ _ (by simp -implicitDefEqProofs only [go_sem, ↓reduceIte, Nat.reduceEqDiff, Nat.reduceAdd, Nat.reduceSub, Nat.reduceMul, Nat.reduceLeDiff, reduceCtorEq, Bool.false_eq_true, Nat.reduceLT]; rfl); clear hK K1
    refine ACode.seq ?_
    refine ACode.region [1, 5, 6, 7, 8] rfl fun K1 hK => ?_
    simp -implicitDefEqProofs only [go_sem, ↓reduceIte, Nat.reduceEqDiff, Nat.reduceAdd, Nat.reduceSub, Nat.reduceMul, Nat.reduceLeDiff, reduceCtorEq, Bool.false_eq_true, Nat.reduceLT, aAppend]
    refine c7 l hl20 _ _ (fun h => by rw [ha] at h; cases h) fun _ p hp b2 hb2 hne => ?_
    simp -implicitDefEqProofs only [go_sem, ↓reduceIte, Nat.reduceEqDiff, Nat.reduceAdd, Nat.reduceSub, Nat.reduceMul, Nat.reduceLeDiff, reduceCtorEq, Bool.false_eq_true, Nat.reduceLT, aAppend]
    refine hK _ _ ?_ _ (by simp -implicitDefEqProofs only [go_sem, ↓reduceIte, Nat.reduceEqDiff, Nat.reduceAdd, Nat.reduceSub, Nat.reduceMul, Nat.reduceLeDiff, reduceCtorEq, Bool.false_eq_true, Nat.reduceLT]; rfl); clear hK K1
    have hS0 := LoopSt.start hb1 hp hb2 hne hl20 htx
    generalize ((H.upd b1 (.box (.agg [.sl ((sortMods l).map eMod), .v (.slice none 0 0), .v (.slice none 0 0)]))).upd p (.arr 2 [eState ⟨[], sortMods l⟩])).upd b2 (.box (.agg [.slr p 2 0 1, .v (.slice none 0 0)])) = G at hS0 ⊢
    clear hb1 hp hb2 hne
    refine ACode.seq ?_
    refine ACode.seq ?_
    refine ACode.region [1, 5, 7, 44] rfl fun K1 hK => ?_
    simp -implicitDefEqProofs only [go_sem, ↓reduceIte, Nat.reduceEqDiff, Nat.reduceAdd, Nat.reduceSub, Nat.reduceMul, Nat.reduceLeDiff, reduceCtorEq, Bool.false_eq_true, Nat.reduceLT, aAppend, Bool.not_true, Bool.not_false]
    refine hK _ _ ?_ _ (by simp -implicitDefEqProofs only [go_sem, ↓reduceIte, Nat.reduceEqDiff, Nat.reduceAdd, Nat.reduceSub, Nat.reduceMul, Nat.reduceLeDiff, reduceCtorEq, Bool.false_eq_true, Nat.reduceLT]; rfl); clear hK K1
    refine ACode.cond rfl (fun h => ?_) (fun h => ?_)
    · -- yes
      cases h
    · -- no
      try simp only [decide_eq_false_iff_not] at h
      refine ACode.skip ?_
      refine ACode.seq ?_
      refine ACode.seq ?_
      refine ACode.region [1, 5, 7, 46] rfl fun K1 hK => ?_
      simp -implicitDefEqProofs only [go_sem, ↓reduceIte, Nat.reduceEqDiff, Nat.reduceAdd, Nat.reduceSub, Nat.reduceMul, Nat.reduceLeDiff, reduceCtorEq, Bool.false_eq_true, Nat.reduceLT, aAppend]
      refine hK _ _ ?_ _ (by simp -implicitDefEqProofs only [go_sem, ↓reduceIte, Nat.reduceEqDiff, Nat.reduceAdd, Nat.reduceSub, Nat.reduceMul, Nat.reduceLeDiff, reduceCtorEq, Bool.false_eq_true, Nat.reduceLT]; rfl); clear hK K1
      refine ACode.cond rfl (fun h => ?_) (fun h => ?_)
      · -- yes
        cases h
      · -- no
        try simp only [decide_eq_false_iff_not] at h
        refine ACode.skip ?_
        refine ACode.seq ?_
        refine ACode.seq ?_
        refine ACode.region [5, 7, 48, 49, 50] rfl fun K1 hK => ?_
        simp -implicitDefEqProofs only [go_sem, ↓reduceIte, Nat.reduceEqDiff, Nat.reduceAdd, Nat.reduceSub, Nat.reduceMul, Nat.reduceLeDiff, reduceCtorEq, Bool.false_eq_true, Nat.reduceLT, aAppend]
        refine hK _ _ ?_ _ (by simp -implicitDefEqProofs only [go_sem, ↓reduceIte, Nat.reduceEqDiff, Nat.reduceAdd, Nat.reduceSub, Nat.reduceMul, Nat.reduceLeDiff, reduceCtorEq, Bool.false_eq_true, Nat.reduceLT]; rfl); clear hK K1
        refine ACode.block ?_
        refine ACode.loop (fun m ρ H' => ∃ k : Nat, m = ops.length - k ∧ k ≤ ops.length ∧ LoopSt H b1 b2 k H' ∧ ρ = [(5, .bp b1 0 []), (7, .bp b2 0 []), (48, .sl (ops.map eOp)), (49, int ops.length), (50, int k)]) ops.length ⟨0, rfl, Nat.zero_le _, hS0, rfl⟩ ?_
        clear hS0 G p
        rintro m ρ H' ⟨k, rfl, hkl, hS, rfl⟩
        refine ACode.seq ?_
        refine ACode.region [5, 7, 48, 49, 50, 51] rfl fun K1 hK => ?_
        simp -implicitDefEqProofs only [go_sem, ↓reduceIte, Nat.reduceEqDiff, Nat.reduceAdd, Nat.reduceSub, Nat.reduceMul, Nat.reduceLeDiff, reduceCtorEq, Bool.false_eq_true, Nat.reduceLT, aAppend]
        refine hK _ _ ?_ _ (by simp -implicitDefEqProofs only [go_sem, ↓reduceIte, Nat.reduceEqDiff, Nat.reduceAdd, Nat.reduceSub, Nat.reduceMul, Nat.reduceLeDiff, reduceCtorEq, Bool.false_eq_true, Nat.reduceLT]; rfl); clear hK K1
        refine ACode.seq ?_
        refine ACode.cond rfl (fun h => ?_) (fun h => ?_)
        · -- yes
          try simp only [decide_eq_true_eq] at h
          obtain ⟨o, hx, hd, hm, -⟩ := at_drop ops k (by omega)
          obtain ⟨z1, z2, z3⟩ := hos o hm
          refine ACode.skip ?_
          refine ACode.seq ?_
          refine ACode.block ?_
          refine ACode.seq ?_
          refine ACode.region [5, 7, 9, 10, 48, 49, 50] rfl fun K1 hK => ?_
          simp -implicitDefEqProofs only [go_sem, ↓reduceIte, Nat.reduceEqDiff, Nat.reduceAdd, Nat.reduceSub, Nat.reduceMul, Nat.reduceLeDiff, reduceCtorEq, Bool.false_eq_true, Nat.reduceLT, aAppend, hx, eOp]
          intro u hu
          refine hK _ _ ?_ _ (by simp -implicitDefEqProofs only [go_sem, ↓reduceIte, Nat.reduceEqDiff, Nat.reduceAdd, Nat.reduceSub, Nat.reduceMul, Nat.reduceLeDiff, reduceCtorEq, Bool.false_eq_true, Nat.reduceLT]; rfl); clear hK K1
          refine ACode.freeze1 u 10 (Heap.upd_same _ _ _) ?_
          simp -implicitDefEqProofs only [go_sem, ↓reduceIte, Nat.reduceEqDiff, Nat.reduceAdd, Nat.reduceSub, Nat.reduceMul, Nat.reduceLeDiff, reduceCtorEq, Bool.false_eq_true, Nat.reduceLT, aAppend, Heap.erase_upd_same _ u _ hu]
          refine ACode.seq ?_
          refine ACode.seq ?_
          refine ACode.region_cut [5, 7, 10, 48, 49, 50, 61] (fun ρ' H1 => H1 = H' ∧ ρ' = [(5, .bp b1 0 []), (7, .bp b2 0 []), (10, .ip (eOp o)), (48, .sl (ops.map eOp)), (49, int ops.length), (50, int k), (61, boo (decide ((250 : Int) ≤ k) || !Fits o))]) rfl (fun K1 hK => ?_) ?_
          · by_cases h250 : (250 : Int) ≤ k
            · simp -implicitDefEqProofs only [go_sem, ↓reduceIte, Nat.reduceEqDiff, Nat.reduceAdd, Nat.reduceSub, Nat.reduceMul, Nat.reduceLeDiff, reduceCtorEq, Bool.false_eq_true, Nat.reduceLT, aAppend, h250]
              refine hK _ _ ⟨rfl, ?_⟩ _ (by simp -implicitDefEqProofs only [go_sem, ↓reduceIte, Nat.reduceEqDiff, Nat.reduceAdd, Nat.reduceSub, Nat.reduceMul, Nat.reduceLeDiff, reduceCtorEq, Bool.false_eq_true, Nat.reduceLT, aAppend] <;> rfl)
              simp [eOp, h250, boo, int, str]
            · simp -implicitDefEqProofs only [go_sem, ↓reduceIte, Nat.reduceEqDiff, Nat.reduceAdd, Nat.reduceSub, Nat.reduceMul, Nat.reduceLeDiff, reduceCtorEq, Bool.false_eq_true, Nat.reduceLT, aAppend, h250]
              refine c8 o z1 z2 z3 _ _ ?_
              simp -implicitDefEqProofs only [go_sem, ↓reduceIte, Nat.reduceEqDiff, Nat.reduceAdd, Nat.reduceSub, Nat.reduceMul, Nat.reduceLeDiff, reduceCtorEq, Bool.false_eq_true, Nat.reduceLT, aAppend]
              refine hK _ _ ⟨rfl, ?_⟩ _ (by simp -implicitDefEqProofs only [go_sem, ↓reduceIte, Nat.reduceEqDiff, Nat.reduceAdd, Nat.reduceSub, Nat.reduceMul, Nat.reduceLeDiff, reduceCtorEq, Bool.false_eq_true, Nat.reduceLT, aAppend] <;> rfl)
              simp [eOp, h250, boo, int, str]
          rintro ρ' H1 ⟨rfl, rfl⟩
          refine ACode.cond rfl (fun h => ?_) (fun h => ?_)
          · -- yes
            try simp only [decide_eq_true_eq] at h
            refine ACode.exit ?_
            refine ACode.seq ?_
            refine ACode.drop (H' := H) ?_ hS.base
            refine ACode.region [4] rfl fun K1 hK => ?_
            simp -implicitDefEqProofs only [go_sem, ↓reduceIte, Nat.reduceEqDiff, Nat.reduceAdd, Nat.reduceSub, Nat.reduceMul, Nat.reduceLeDiff, reduceCtorEq, Bool.false_eq_true, Nat.reduceLT, aAppend]
            refine c5 H _ ?_
            simp -implicitDefEqProofs only [go_sem, ↓reduceIte, Nat.reduceEqDiff, Nat.reduceAdd, Nat.reduceSub, Nat.reduceMul, Nat.reduceLeDiff, reduceCtorEq, Bool.false_eq_true, Nat.reduceLT, aAppend]
            refine hK _ _ ?_ _ (by simp -implicitDefEqProofs only [go_sem, ↓reduceIte, Nat.reduceEqDiff, Nat.reduceAdd, Nat.reduceSub, Nat.reduceMul, Nat.reduceLeDiff, reduceCtorEq, Bool.false_eq_true, Nat.reduceLT]; rfl); clear hK K1
            refine ACode.ret ?_
            exact hk
          · -- no
            try simp only [decide_eq_false_iff_not] at h
            have hk250 : k < 250 := by
              simp only [Bool.or_eq_false_iff, decide_eq_false_iff_not] at h; omega
            have hfits : Fits o = true := by
              simp only [Bool.or_eq_false_iff, Bool.not_eq_false'] at h; exact h.2
            obtain ⟨f1, f2, f3⟩ := fits_spec hfits
            clear h
            refine ACode.skip ?_
            refine ACode.seq_cut [5, 7, 48, 49, 50] (fun ρ' H1 => LoopSt H b1 b2 (k + 1) H1 ∧ ρ' = [(5, .bp b1 0 []), (7, .bp b2 0 []), (48, .sl (ops.map eOp)), (49, int ops.length), (50, int k)]) ?_ ?_
            · -- M13
              refine ACode.seq ?_
              refine ACode.region [5, 7, 10, 48, 49, 50, 63] rfl fun K1 hK => ?_
              simp -implicitDefEqProofs only [go_sem, ↓reduceIte, Nat.reduceEqDiff, Nat.reduceAdd, Nat.reduceSub, Nat.reduceMul, Nat.reduceLeDiff, reduceCtorEq, Bool.false_eq_true, Nat.reduceLT, aAppend, eOp]
              refine hK _ _ ?_ _ (by simp -implicitDefEqProofs only [go_sem, ↓reduceIte, Nat.reduceEqDiff, Nat.reduceAdd, Nat.reduceSub, Nat.reduceMul, Nat.reduceLeDiff, reduceCtorEq, Bool.false_eq_true, Nat.reduceLT]; rfl); clear hK K1
              refine ACode.block ?_
              refine ACode.seq ?_
              refine ACode.region [5, 7, 10, 48, 49, 50, 63, 64] rfl fun K1 hK => ?_
              simp -implicitDefEqProofs only [go_sem, ↓reduceIte, Nat.reduceEqDiff, Nat.reduceAdd, Nat.reduceSub, Nat.reduceMul, Nat.reduceLeDiff, reduceCtorEq, Bool.false_eq_true, Nat.reduceLT, aAppend]
              refine hK _ _ ?_ _ (by simp -implicitDefEqProofs only [go_sem, ↓reduceIte, Nat.reduceEqDiff, Nat.reduceAdd, Nat.reduceSub, Nat.reduceMul, Nat.reduceLeDiff, reduceCtorEq, Bool.false_eq_true, Nat.reduceLT]; rfl); clear hK K1
              refine ACode.cond rfl (fun h => ?_) (fun h => ?_)
              · -- yes
                try simp only [decide_eq_true_eq] at h
                refine ACode.seq ?_
                refine ACode.draw_cut [5, 7, 48, 49, 50, 78] [(0, 0), (1, 0), (3, 0), (6, 0), (7, 0), (9, 0), (2, 0), (4, 0), (8, 0), (10, 0), (5, 2), (11, 2), (12, 0)] (fun ρ' H1 => LoopSt H b1 b2 (k + 1) H1 ∧ ρ' = [(5, .bp b1 0 []), (7, .bp b2 0 []), (48, .sl (ops.map eOp)), (49, int ops.length), (50, int k), (78, boo false)]) (by kernel_rfl) (by kernel_rfl) rfl (by kernel_rfl) (fun K1 hK => ?_) ?_
                · simp -implicitDefEqProofs only [go_sem, ↓reduceIte, Nat.reduceEqDiff, Nat.reduceAdd, Nat.reduceSub, Nat.reduceMul, Nat.reduceLeDiff, reduceCtorEq, Bool.false_eq_true, Nat.reduceLT, aAppend, eOp]
                  refine do_p hk250 hS o.Note o.L f3 f2 f1 _ fun e H1 hM => ?_
                  simp -implicitDefEqProofs only [go_sem, ↓reduceIte, Nat.reduceEqDiff, Nat.reduceAdd, Nat.reduceSub, Nat.reduceMul, Nat.reduceLeDiff, reduceCtorEq, Bool.false_eq_true, Nat.reduceLT, aAppend]
                  refine do_r hk250 hM f3 f2 f1 _ fun H2 hS2 => ?_
                  simp -implicitDefEqProofs only [go_sem, ↓reduceIte, Nat.reduceEqDiff, Nat.reduceAdd, Nat.reduceSub, Nat.reduceMul, Nat.reduceLeDiff, reduceCtorEq, Bool.false_eq_true, Nat.reduceLT, aAppend]
                  refine hK _ _ ⟨hS2, ?_⟩ _ (by simp -implicitDefEqProofs only [go_sem, ↓reduceIte, Nat.reduceEqDiff, Nat.reduceAdd, Nat.reduceSub, Nat.reduceMul, Nat.reduceLeDiff, reduceCtorEq, Bool.false_eq_true, Nat.reduceLT, aAppend] <;> rfl)
                  simp [boo, int]
                rintro ρ' H1 ⟨hS1, rfl⟩
                refine ACode.cond rfl (fun h => ?_) (fun h => ?_)
                · -- yes
                  cases h
                · -- no
                  try simp only [decide_eq_false_iff_not] at h
                  refine ACode.skip ?_
                  first
                    | exact ⟨rfl, hS1, rfl⟩
                    | exact ⟨rfl, hS.more, rfl⟩
              · -- no
                try simp only [decide_eq_false_iff_not] at h
                refine ACode.seq ?_
                refine ACode.region [5, 7, 48, 49, 50, 63, 79] rfl fun K1 hK => ?_
                simp -implicitDefEqProofs only [go_sem, ↓reduceIte, Nat.reduceEqDiff, Nat.reduceAdd, Nat.reduceSub, Nat.reduceMul, Nat.reduceLeDiff, reduceCtorEq, Bool.false_eq_true, Nat.reduceLT, aAppend]
                refine hK _ _ ?_ _ (by simp -implicitDefEqProofs only [go_sem, ↓reduceIte, Nat.reduceEqDiff, Nat.reduceAdd, Nat.reduceSub, Nat.reduceMul, Nat.reduceLeDiff, reduceCtorEq, Bool.false_eq_true, Nat.reduceLT]; rfl); clear hK K1
                refine ACode.cond rfl (fun h => ?_) (fun h => ?_)
                · -- yes
                  try simp only [decide_eq_true_eq] at h
                  refine ACode.seq ?_
                  refine ACode.region_cut [5, 7, 11, 12, 48, 49, 50] (fun ρ' H1 => ∃ note e, Mid (UndoRel note e) H b1 b2 k H1 ∧ ρ' = [(5, .bp b1 0 []), (7, .bp b2 0 []), (11, str note), (12, int e), (48, .sl (ops.map eOp)), (49, int ops.length), (50, int k)]) rfl (fun K1 hK => ?_) ?_
                  · simp -implicitDefEqProofs only [go_sem, ↓reduceIte, Nat.reduceEqDiff, Nat.reduceAdd, Nat.reduceSub, Nat.reduceMul, Nat.reduceLeDiff, reduceCtorEq, Bool.false_eq_true, Nat.reduceLT, aAppend]
                    refine undo_p hk250 hS _ fun note e H1 hM => ?_
                    simp -implicitDefEqProofs only [go_sem, ↓reduceIte, Nat.reduceEqDiff, Nat.reduceAdd, Nat.reduceSub, Nat.reduceMul, Nat.reduceLeDiff, reduceCtorEq, Bool.false_eq_true, Nat.reduceLT, aAppend]
                    exact hK _ _ ⟨note, e, hM, rfl⟩ _ (by simp -implicitDefEqProofs only [go_sem, ↓reduceIte, Nat.reduceEqDiff, Nat.reduceAdd, Nat.reduceSub, Nat.reduceMul, Nat.reduceLeDiff, reduceCtorEq, Bool.false_eq_true, Nat.reduceLT, aAppend] <;> rfl)
                  rintro ρ' H1 ⟨note, e, hM, rfl⟩
                  refine ACode.seq ?_
                  refine ACode.region [5, 7, 11, 12, 13, 14, 48, 49, 50] rfl fun K1 hK => ?_
                  simp -implicitDefEqProofs only [go_sem, ↓reduceIte, Nat.reduceEqDiff, Nat.reduceAdd, Nat.reduceSub, Nat.reduceMul, Nat.reduceLeDiff, reduceCtorEq, Bool.false_eq_true, Nat.reduceLT, aAppend]
                  refine undo_r hk250 hM _ fun H2 hS1 => ?_
                  simp -implicitDefEqProofs only [go_sem, ↓reduceIte, Nat.reduceEqDiff, Nat.reduceAdd, Nat.reduceSub, Nat.reduceMul, Nat.reduceLeDiff, reduceCtorEq, Bool.false_eq_true, Nat.reduceLT, aAppend]
                  refine hK _ _ ?_ _ (by simp -implicitDefEqProofs only [go_sem, ↓reduceIte, Nat.reduceEqDiff, Nat.reduceAdd, Nat.reduceSub, Nat.reduceMul, Nat.reduceLeDiff, reduceCtorEq, Bool.false_eq_true, Nat.reduceLT]; rfl); clear hK K1
                  refine ACode.seq ?_
                  refine ACode.region [5, 7, 48, 49, 50, 98] rfl fun K1 hK => ?_
                  simp -implicitDefEqProofs only [go_sem, ↓reduceIte, Nat.reduceEqDiff, Nat.reduceAdd, Nat.reduceSub, Nat.reduceMul, Nat.reduceLeDiff, reduceCtorEq, Bool.false_eq_true, Nat.reduceLT, aAppend, decide_true, Bool.not_true, Bool.not_false]
                  refine hK _ _ ?_ _ (by simp -implicitDefEqProofs only [go_sem, ↓reduceIte, Nat.reduceEqDiff, Nat.reduceAdd, Nat.reduceSub, Nat.reduceMul, Nat.reduceLeDiff, reduceCtorEq, Bool.false_eq_true, Nat.reduceLT]; rfl); clear hK K1
                  refine ACode.cond rfl (fun h => ?_) (fun h => ?_)
                  · -- yes
                    cases h
                  · -- no
                    try simp only [decide_eq_false_iff_not] at h
                    refine ACode.skip ?_
                    first
                      | exact ⟨rfl, hS1, rfl⟩
                      | exact ⟨rfl, hS.more, rfl⟩
                · -- no
                  try simp only [decide_eq_false_iff_not] at h
                  refine ACode.seq ?_
                  refine ACode.region [5, 7, 48, 49, 50, 99] rfl fun K1 hK => ?_
                  simp -implicitDefEqProofs only [go_sem, ↓reduceIte, Nat.reduceEqDiff, Nat.reduceAdd, Nat.reduceSub, Nat.reduceMul, Nat.reduceLeDiff, reduceCtorEq, Bool.false_eq_true, Nat.reduceLT, aAppend]
                  refine hK _ _ ?_ _ (by simp -implicitDefEqProofs only [go_sem, ↓reduceIte, Nat.reduceEqDiff, Nat.reduceAdd, Nat.reduceSub, Nat.reduceMul, Nat.reduceLeDiff, reduceCtorEq, Bool.false_eq_true, Nat.reduceLT]; rfl); clear hK K1
                  refine ACode.cond rfl (fun h => ?_) (fun h => ?_)
                  · -- yes
                    try simp only [decide_eq_true_eq] at h
                    refine ACode.seq ?_
                    refine ACode.region_cut [5, 7, 15, 16, 48, 49, 50] (fun ρ' H1 => ∃ note e, Mid (RedoRel note e) H b1 b2 k H1 ∧ ρ' = [(5, .bp b1 0 []), (7, .bp b2 0 []), (15, str note), (16, int e), (48, .sl (ops.map eOp)), (49, int ops.length), (50, int k)]) rfl (fun K1 hK => ?_) ?_
                    · simp -implicitDefEqProofs only [go_sem, ↓reduceIte, Nat.reduceEqDiff, Nat.reduceAdd, Nat.reduceSub, Nat.reduceMul, Nat.reduceLeDiff, reduceCtorEq, Bool.false_eq_true, Nat.reduceLT, aAppend]
                      refine redo_p hk250 hS _ fun note e H1 hM => ?_
                      simp -implicitDefEqProofs only [go_sem, ↓reduceIte, Nat.reduceEqDiff, Nat.reduceAdd, Nat.reduceSub, Nat.reduceMul, Nat.reduceLeDiff, reduceCtorEq, Bool.false_eq_true, Nat.reduceLT, aAppend]
                      exact hK _ _ ⟨note, e, hM, rfl⟩ _ (by simp -implicitDefEqProofs only [go_sem, ↓reduceIte, Nat.reduceEqDiff, Nat.reduceAdd, Nat.reduceSub, Nat.reduceMul, Nat.reduceLeDiff, reduceCtorEq, Bool.false_eq_true, Nat.reduceLT, aAppend] <;> rfl)
                    rintro ρ' H1 ⟨note, e, hM, rfl⟩
                    refine ACode.seq ?_
                    refine ACode.region [5, 7, 15, 16, 17, 18, 48, 49, 50] rfl fun K1 hK => ?_
                    simp -implicitDefEqProofs only [go_sem, ↓reduceIte, Nat.reduceEqDiff, Nat.reduceAdd, Nat.reduceSub, Nat.reduceMul, Nat.reduceLeDiff, reduceCtorEq, Bool.false_eq_true, Nat.reduceLT, aAppend]
                    refine redo_r hk250 hM _ fun H2 hS1 => ?_
                    simp -implicitDefEqProofs only [go_sem, ↓reduceIte, Nat.reduceEqDiff, Nat.reduceAdd, Nat.reduceSub, Nat.reduceMul, Nat.reduceLeDiff, reduceCtorEq, Bool.false_eq_true, Nat.reduceLT, aAppend]
                    refine hK _ _ ?_ _ (by simp -implicitDefEqProofs only [go_sem, ↓reduceIte, Nat.reduceEqDiff, Nat.reduceAdd, Nat.reduceSub, Nat.reduceMul, Nat.reduceLeDiff, reduceCtorEq, Bool.false_eq_true, Nat.reduceLT]; rfl); clear hK K1
                    refine ACode.seq ?_
                    refine ACode.region [5, 7, 48, 49, 50, 118] rfl fun K1 hK => ?_
                    simp -implicitDefEqProofs only [go_sem, ↓reduceIte, Nat.reduceEqDiff, Nat.reduceAdd, Nat.reduceSub, Nat.reduceMul, Nat.reduceLeDiff, reduceCtorEq, Bool.false_eq_true, Nat.reduceLT, aAppend, decide_true, Bool.not_true, Bool.not_false]
                    refine hK _ _ ?_ _ (by simp -implicitDefEqProofs only [go_sem, ↓reduceIte, Nat.reduceEqDiff, Nat.reduceAdd, Nat.reduceSub, Nat.reduceMul, Nat.reduceLeDiff, reduceCtorEq, Bool.false_eq_true, Nat.reduceLT]; rfl); clear hK K1
                    refine ACode.cond rfl (fun h => ?_) (fun h => ?_)
                    · -- yes
                      cases h
                    · -- no
                      try simp only [decide_eq_false_iff_not] at h
                      refine ACode.skip ?_
                      first
                        | exact ⟨rfl, hS1, rfl⟩
                        | exact ⟨rfl, hS.more, rfl⟩
                  · -- no
                    try simp only [decide_eq_false_iff_not] at h
                    refine ACode.skip ?_
                    first
                      | exact ⟨rfl, hS1, rfl⟩
                      | exact ⟨rfl, hS.more, rfl⟩
            rintro ρ1 H1 ⟨hS1, rfl⟩
            obtain ⟨a, P, N, F1, F2, hI, hP, hR, hT⟩ := id hS1
            obtain ⟨q1, q2⟩ := hI.cur
            refine ACode.seq ?_
            refine ACode.region [5, 7, 19, 20, 48, 49, 50] rfl fun K1 hK => ?_
            simp -implicitDefEqProofs only [go_sem, ↓reduceIte, Nat.reduceEqDiff, Nat.reduceAdd, Nat.reduceSub, Nat.reduceMul, Nat.reduceLeDiff, reduceCtorEq, Bool.false_eq_true, Nat.reduceLT, aAppend]
            refine p15 (by omega) hP _ ?_
            simp -implicitDefEqProofs only [go_sem, ↓reduceIte, Nat.reduceEqDiff, Nat.reduceAdd, Nat.reduceSub, Nat.reduceMul, Nat.reduceLeDiff, reduceCtorEq, Bool.false_eq_true, Nat.reduceLT, aAppend]
            refine hK _ _ ?_ _ (by simp -implicitDefEqProofs only [go_sem, ↓reduceIte, Nat.reduceEqDiff, Nat.reduceAdd, Nat.reduceSub, Nat.reduceMul, Nat.reduceLeDiff, reduceCtorEq, Bool.false_eq_true, Nat.reduceLT]; rfl); clear hK K1
            refine ACode.seq ?_
            refine ACode.region_cut [5, 7, 48, 49, 50, 150] (fun ρ' H2 => H2 = H1 ∧ ρ' = [(5, .bp b1 0 []), (7, .bp b2 0 []), (48, .sl (ops.map eOp)), (49, int ops.length), (50, int k), (150, boo false)]) rfl (fun K1 hK => ?_) ?_
            · simp -implicitDefEqProofs only [go_sem, ↓reduceIte, Nat.reduceEqDiff, Nat.reduceAdd, Nat.reduceSub, Nat.reduceMul, Nat.reduceLeDiff, reduceCtorEq, Bool.false_eq_true, Nat.reduceLT, aAppend]
              refine p17 hP (by omega) _ ?_
              simp -implicitDefEqProofs only [go_sem, ↓reduceIte, Nat.reduceEqDiff, Nat.reduceAdd, Nat.reduceSub, Nat.reduceMul, Nat.reduceLeDiff, reduceCtorEq, Bool.false_eq_true, Nat.reduceLT, aAppend]
              obtain ⟨ps, e1, e2⟩ := past_last a P
              have hR' := hR
              rw [e1] at hR'
              refine r18 (by omega) hR' _ ?_
              simp -implicitDefEqProofs only [go_sem, ↓reduceIte, Nat.reduceEqDiff, Nat.reduceAdd, Nat.reduceSub, Nat.reduceMul, Nat.reduceLeDiff, reduceCtorEq, Bool.false_eq_true, Nat.reduceLT, aAppend]
              refine c16 _ _ (by omega) (by omega) _ _ ?_
              have hnP : (P.map (·.1)).map (·.note) = (P.map (·.2)).map (·.Note) := by
                rw [List.map_map, List.map_map]; exact List.map_congr_left fun x hx => hI.note x (.inl hx)
              have hnN : (N.map (·.1)).map (·.note) = (N.map (·.2)).map (·.Note) := by
                rw [List.map_map, List.map_map]; exact List.map_congr_left fun x hx => hI.note x (.inr hx)
              have hlen := hI.len
              obtain ⟨p0, q0, r1, r2, r3, r4, r5, r6, r7⟩ := hR
              rcases r2 with ⟨r2, -⟩ | ⟨pb, pi, prow, g1, rfl, g3, g4, g5⟩
              · cases r2
              have hge : ((a :: P.map (·.2)).length) = P.length + 1 := by simp
              rw [hge] at g3 g4
              have etail : ((prow.take (pi + (P.length + 1))).drop (pi + Int.toNat 1)) = P.map (·.2) := by
                have h1 := congrArg List.tail g4
                rw [List.tail_cons, ← List.drop_one, List.drop_take, List.drop_drop] at h1
                rw [List.drop_take, show pi + (P.length + 1) - (pi + Int.toNat 1) = P.length + 1 - 1 by rw [show Int.toNat 1 = 1 from rfl]; omega]
                exact h1
              have c20p : ∀ K : AV → Heap → Prop, K (.sl (((P.map (·.2)).map (·.Note)).map str)) H1 → ACalls Try.prog 20 [.slr pb 2 (pi + Int.toNat 1) (pi + (P.length + 1))] H1 K := fun K' hK' =>
                c20 pb (pi + Int.toNat 1) (pi + (P.length + 1)) prow (by rw [show Int.toNat 1 = 1 from rfl]; omega) g3 (by omega) H1 g1 K' (by rw [etail]; exact hK')
              rcases id r3 with ⟨-, rfl⟩ | ⟨qb, qi, qrow, -, rfl, -⟩
              all_goals
                simp -implicitDefEqProofs only [go_sem, ↓reduceIte, Nat.reduceEqDiff, Nat.reduceAdd, Nat.reduceSub, Nat.reduceMul, Nat.reduceLeDiff, reduceCtorEq, Bool.false_eq_true, Nat.reduceLT, aAppend, decide_true, Bool.not_true, Bool.not_false, r1]
                rw [show pi + (pi + (P.length + 1) - pi) = pi + (P.length + 1) by omega]
                refine ⟨by omega, by omega, .inl (by omega), c20p _ ?_⟩
                simp -implicitDefEqProofs only [go_sem, ↓reduceIte, Nat.reduceEqDiff, Nat.reduceAdd, Nat.reduceSub, Nat.reduceMul, Nat.reduceLeDiff, reduceCtorEq, Bool.false_eq_true, Nat.reduceLT, aAppend]
                refine c19 _ _ (by simp; omega) (by simp; omega) _ _ ?_
                rw [decide_eq_true hnP]
                simp -implicitDefEqProofs only [go_sem, ↓reduceIte, Nat.reduceEqDiff, Nat.reduceAdd, Nat.reduceSub, Nat.reduceMul, Nat.reduceLeDiff, reduceCtorEq, Bool.false_eq_true, Nat.reduceLT, aAppend, Bool.not_true, Bool.not_false, r1]
                have h20 := c20k (by omega) r3
                try simp only [List.length_map] at h20
                refine h20 _ ?_
                simp -implicitDefEqProofs only [go_sem, ↓reduceIte, Nat.reduceEqDiff, Nat.reduceAdd, Nat.reduceSub, Nat.reduceMul, Nat.reduceLeDiff, reduceCtorEq, Bool.false_eq_true, Nat.reduceLT, aAppend]
                refine c19 _ _ (by simp; omega) (by simp; omega) _ _ ?_
                rw [decide_eq_true hnN]
                simp -implicitDefEqProofs only [go_sem, ↓reduceIte, Nat.reduceEqDiff, Nat.reduceAdd, Nat.reduceSub, Nat.reduceMul, Nat.reduceLeDiff, reduceCtorEq, Bool.false_eq_true, Nat.reduceLT, aAppend, Bool.not_true, Bool.not_false]
                refine hK _ _ ⟨rfl, ?_⟩ _ (by simp -implicitDefEqProofs only [go_sem, ↓reduceIte, Nat.reduceEqDiff, Nat.reduceAdd, Nat.reduceSub, Nat.reduceMul, Nat.reduceLeDiff, reduceCtorEq, Bool.false_eq_true, Nat.reduceLT, aAppend] <;> rfl)
                simp [boo, int]
            rintro ρ' H2 ⟨rfl, rfl⟩
            refine ACode.cond rfl (fun h => ?_) (fun h => ?_)
            · -- yes
              cases h
            · -- no
              try simp only [decide_eq_false_iff_not] at h
              refine ACode.skip ?_
              refine ACode.region [5, 7, 48, 49, 50] rfl fun K1 hK => ?_
              simp -implicitDefEqProofs only [go_sem, ↓reduceIte, Nat.reduceEqDiff, Nat.reduceAdd, Nat.reduceSub, Nat.reduceMul, Nat.reduceLeDiff, reduceCtorEq, Bool.false_eq_true, Nat.reduceLT, aAppend]
              rw [wrap_i64 (by omega) (by omega)]
              refine hK _ _ ?_ _ (by simp -implicitDefEqProofs only [go_sem, ↓reduceIte, Nat.reduceEqDiff, Nat.reduceAdd, Nat.reduceSub, Nat.reduceMul, Nat.reduceLeDiff, reduceCtorEq, Bool.false_eq_true, Nat.reduceLT]; rfl); clear hK K1
              exact ⟨_, by omega, k + 1, rfl, by omega, hS1, by simp <;> rfl⟩
        · -- no
          try simp only [decide_eq_false_iff_not] at h
          refine ACode.exit ?_
          refine ACode.seq ?_
          refine ACode.drop (H' := H) ?_ hS.base
          refine ACode.region [4] rfl fun K1 hK => ?_
          simp -implicitDefEqProofs only [go_sem, ↓reduceIte, Nat.reduceEqDiff, Nat.reduceAdd, Nat.reduceSub, Nat.reduceMul, Nat.reduceLeDiff, reduceCtorEq, Bool.false_eq_true, Nat.reduceLT, aAppend]
          refine c5 H _ ?_
          simp -implicitDefEqProofs only [go_sem, ↓reduceIte, Nat.reduceEqDiff, Nat.reduceAdd, Nat.reduceSub, Nat.reduceMul, Nat.reduceLeDiff, reduceCtorEq, Bool.false_eq_true, Nat.reduceLT, aAppend]
          refine hK _ _ ?_ _ (by simp -implicitDefEqProofs only [go_sem, ↓reduceIte, Nat.reduceEqDiff, Nat.reduceAdd, Nat.reduceSub, Nat.reduceMul, Nat.reduceLeDiff, reduceCtorEq, Bool.false_eq_true, Nat.reduceLT]; rfl); clear hK K1
          refine ACode.ret ?_
          exact hk


/-- whetstone/whetstonelaw31.HistoryPlays answers true -/
theorem c3 (l : List Mod) (ops : List OpV) (hl : l.length ≤ 140737488355328) (hs : ∀ m ∈ l, m.Name.length ≤ 140737488355328 ∧ m.Text.length ≤ 140737488355328) (hol : ops.length ≤ 140737488355328) (hos : ∀ o ∈ ops, OpSized o)
    (H : Heap) (K : AV → Heap → Prop) (hk : K (boo true) H) : ACalls Try.prog 3 [.sl (l.map eMod), .sl (ops.map eOp)] H K := by
  cases hL : Light l 500 with
  | false => exact c3n l _ hl hs hL H K hk
  | true =>
    cases ha : apartMods (sortMods l) with
    | false => exact c3a l ops hl hs hL ha H K hk
    | true => exact c3b l ops hl hs hol hos hL ha H K hk

end Go.Flow

