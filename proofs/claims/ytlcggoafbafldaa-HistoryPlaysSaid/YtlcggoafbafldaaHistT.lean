/-
  A text behind edits: the program's answer. No condition.
-/
import Derived.Test.YtlcggoafbafldaaHistS
import Derived.Test.YtlcggoafbafldaaHistL
set_option linter.unusedVariables false
set_option linter.unusedSimpArgs false
set_option maxRecDepth 20000
namespace Go.Flow
open Go Go.Proofs

/-- whetstone/edit.Apply -/
theorem c34 (s : List UInt8) (l : List Edit) (hs : s.length ≤ 140737488355328) (hl : l.length ≤ 1000000) (ht : ∀ x ∈ l, x.Text.length ≤ 140737488355328) (hfull : Sound l s.length = 0 → (appFrom s 0 l).length ≤ 140737488355328)
    (H : Heap) (K : AV → Heap → Prop) (hk : K (.tup [str (Apply s l).1, int (Apply s l).2]) H) : ACalls Try.prog 34 [str s, .sl (l.map eEdit)] H K := by
  refine ACalls.of_code Try.func34 rfl (by kernel_rfl) rfl (by simp [Try.ntmps34]) ?_
  rw [Try.ntmps34, Try.results34]; simp -implicitDefEqProofs only [go_sem, ↓reduceIte, Nat.reduceEqDiff, Nat.reduceAdd, Nat.reduceSub, Nat.reduceMul, Nat.reduceLeDiff, reduceCtorEq, Bool.false_eq_true, Nat.reduceLT, aAppend]
  refine ACode.seq ?_
  refine ACode.region [0, 1] rfl fun K1 hK => ?_
  simp -implicitDefEqProofs only [go_sem, ↓reduceIte, Nat.reduceEqDiff, Nat.reduceAdd, Nat.reduceSub, Nat.reduceMul, Nat.reduceLeDiff, reduceCtorEq, Bool.false_eq_true, Nat.reduceLT, aAppend]
  refine hK _ _ ?_ _ (by simp -implicitDefEqProofs only [go_sem, ↓reduceIte, Nat.reduceEqDiff, Nat.reduceAdd, Nat.reduceSub, Nat.reduceMul, Nat.reduceLeDiff, reduceCtorEq, Bool.false_eq_true, Nat.reduceLT]; rfl); clear hK K1
  refine ACode.seq ?_
  refine ACode.seq ?_
  refine ACode.region [0, 1, 6] rfl fun K1 hK => ?_
  simp -implicitDefEqProofs only [go_sem, ↓reduceIte, Nat.reduceEqDiff, Nat.reduceAdd, Nat.reduceSub, Nat.reduceMul, Nat.reduceLeDiff, reduceCtorEq, Bool.false_eq_true, Nat.reduceLT, aAppend]
  refine c35 l s.length (by omega) _ _ ?_
  simp -implicitDefEqProofs only [go_sem, ↓reduceIte, Nat.reduceEqDiff, Nat.reduceAdd, Nat.reduceSub, Nat.reduceMul, Nat.reduceLeDiff, reduceCtorEq, Bool.false_eq_true, Nat.reduceLT, aAppend]
  refine hK _ _ ?_ _ (by simp -implicitDefEqProofs only [go_sem, ↓reduceIte, Nat.reduceEqDiff, Nat.reduceAdd, Nat.reduceSub, Nat.reduceMul, Nat.reduceLeDiff, reduceCtorEq, Bool.false_eq_true, Nat.reduceLT]; rfl); clear hK K1
  refine ACode.seq ?_
  refine ACode.region [0, 1, 6, 16] rfl fun K1 hK => ?_
  simp -implicitDefEqProofs only [go_sem, ↓reduceIte, Nat.reduceEqDiff, Nat.reduceAdd, Nat.reduceSub, Nat.reduceMul, Nat.reduceLeDiff, reduceCtorEq, Bool.false_eq_true, Nat.reduceLT, aAppend]
  refine hK _ _ ?_ _ (by simp -implicitDefEqProofs only [go_sem, ↓reduceIte, Nat.reduceEqDiff, Nat.reduceAdd, Nat.reduceSub, Nat.reduceMul, Nat.reduceLeDiff, reduceCtorEq, Bool.false_eq_true, Nat.reduceLT]; rfl); clear hK K1
  refine ACode.cond rfl (fun h => ?_) (fun h => ?_)
  · -- yes
    try simp only [decide_eq_true_eq] at h
    rw [Apply, if_neg (by simpa using h)] at hk
    refine ACode.seq ?_
    refine ACode.region [4, 5] rfl fun K1 hK => ?_
    simp -implicitDefEqProofs only [go_sem, ↓reduceIte, Nat.reduceEqDiff, Nat.reduceAdd, Nat.reduceSub, Nat.reduceMul, Nat.reduceLeDiff, reduceCtorEq, Bool.false_eq_true, Nat.reduceLT, aAppend]
    refine hK _ _ ?_ _ (by simp -implicitDefEqProofs only [go_sem, ↓reduceIte, Nat.reduceEqDiff, Nat.reduceAdd, Nat.reduceSub, Nat.reduceMul, Nat.reduceLeDiff, reduceCtorEq, Bool.false_eq_true, Nat.reduceLT]; rfl); clear hK K1
    refine ACode.ret ?_
    exact hk
  · -- no
    try simp only [decide_eq_false_iff_not] at h
    have h0 : Sound l s.length = 0 := by simpa using h
    rw [Apply, if_pos h0] at hk
    have hfu := hfull h0
    clear hfull
    have h512 : l.length ≤ 512 := by
      rw [Sound] at h0
      split at h0
      · omega
      · omega
    rw [Sound, if_neg (by omega)] at h0
    refine ACode.skip ?_
    refine ACode.seq ?_
    refine ACode.AL_cut [0, 1, 7] (fun ρ' H' => ∃ b, BldSt 94 5 H b [] H' ∧ ρ' = [(0, str s), (1, .sl (l.map eEdit)), (7, .bp b 0 [])]) (fun K1 hK => ?_) ?_
    · refine AL.step rfl rfl fun I w a hR hG => ⟨Instr.alloc 94 true (.tuple #[]), by simp only [execOp], ?_⟩
      refine aAllocT_ok ze94 (fun b hb => ?_) hR
      refine AL.run rfl ?_
      simp -implicitDefEqProofs only [go_sem, ↓reduceIte, Nat.reduceEqDiff, Nat.reduceAdd, Nat.reduceSub, Nat.reduceMul, Nat.reduceLeDiff, reduceCtorEq, Bool.false_eq_true, Nat.reduceLT, aAppend]
      exact hK _ _ ⟨b, BldSt.new hb, rfl⟩ _ (by simp -implicitDefEqProofs only [go_sem, ↓reduceIte, Nat.reduceEqDiff, Nat.reduceAdd, Nat.reduceSub, Nat.reduceMul, Nat.reduceLeDiff, reduceCtorEq, Bool.false_eq_true, Nat.reduceLT, aAppend] <;> rfl)
    rintro ρ' H1 ⟨b, hB, rfl⟩
    refine ACode.seq ?_
    refine ACode.region [0, 1, 7, 8] rfl fun K1 hK => ?_
    simp -implicitDefEqProofs only [go_sem, ↓reduceIte, Nat.reduceEqDiff, Nat.reduceAdd, Nat.reduceSub, Nat.reduceMul, Nat.reduceLeDiff, reduceCtorEq, Bool.false_eq_true, Nat.reduceLT, aAppend]
    refine hK _ _ ?_ _ (by simp -implicitDefEqProofs only [go_sem, ↓reduceIte, Nat.reduceEqDiff, Nat.reduceAdd, Nat.reduceSub, Nat.reduceMul, Nat.reduceLeDiff, reduceCtorEq, Bool.false_eq_true, Nat.reduceLT]; rfl); clear hK K1
    refine ACode.seq ?_
    refine ACode.seq ?_
    refine ACode.region [0, 7, 8, 18, 19, 20] rfl fun K1 hK => ?_
    simp -implicitDefEqProofs only [go_sem, ↓reduceIte, Nat.reduceEqDiff, Nat.reduceAdd, Nat.reduceSub, Nat.reduceMul, Nat.reduceLeDiff, reduceCtorEq, Bool.false_eq_true, Nat.reduceLT, aAppend]
    refine hK _ _ ?_ _ (by simp -implicitDefEqProofs only [go_sem, ↓reduceIte, Nat.reduceEqDiff, Nat.reduceAdd, Nat.reduceSub, Nat.reduceMul, Nat.reduceLeDiff, reduceCtorEq, Bool.false_eq_true, Nat.reduceLT]; rfl); clear hK K1
    refine ACode.block ?_
    refine ACode.loop (fun m ρ H' => ∃ (k at_ : Nat) (last : Int) (out : List UInt8), m = l.length - k ∧ k ≤ l.length ∧ soundFrom s.length last (l.drop k) = 0 ∧ (at_ : Int) ≤ last + 1 ∧ at_ ≤ s.length ∧ appFrom s 0 l = out ++ appFrom s at_ (l.drop k) ∧ BldSt 94 5 H b out H' ∧ ρ = [(0, str s), (7, .bp b 0 []), (8, int at_), (18, .sl (l.map eEdit)), (19, int l.length), (20, int k)]) l.length ⟨0, 0, -1, [], rfl, Nat.zero_le _, h0, by simp, Nat.zero_le _, rfl, hB, rfl⟩ ?_
    clear hB
    rintro m ρ H' ⟨k, at_, last, out, rfl, hkl, hsd, ha1, ha2, hap, hB, rfl⟩
    simp -implicitDefEqProofs only [go_sem, ↓reduceIte, Nat.reduceEqDiff, Nat.reduceAdd, Nat.reduceSub, Nat.reduceMul, Nat.reduceLeDiff, reduceCtorEq, Bool.false_eq_true, Nat.reduceLT, aAppend]
    refine ACode.seq ?_
    refine ACode.region [0, 7, 8, 18, 19, 20, 21] rfl fun K1 hK => ?_
    simp -implicitDefEqProofs only [go_sem, ↓reduceIte, Nat.reduceEqDiff, Nat.reduceAdd, Nat.reduceSub, Nat.reduceMul, Nat.reduceLeDiff, reduceCtorEq, Bool.false_eq_true, Nat.reduceLT, aAppend]
    refine hK _ _ ?_ _ (by simp -implicitDefEqProofs only [go_sem, ↓reduceIte, Nat.reduceEqDiff, Nat.reduceAdd, Nat.reduceSub, Nat.reduceMul, Nat.reduceLeDiff, reduceCtorEq, Bool.false_eq_true, Nat.reduceLT]; rfl); clear hK K1
    refine ACode.seq ?_
    refine ACode.cond rfl (fun h => ?_) (fun h => ?_)
    · -- yes
      try simp only [decide_eq_true_eq] at h
      obtain ⟨y, hx, hd, hm, -⟩ := at_drop l k (by omega)
      have hy := ht y hm
      rw [hd] at hsd hap
      obtain ⟨d1, d2, d3, d4, d5, d6⟩ := sound_cons hsd
      rw [appFrom] at hap
      have hlen := congrArg List.length hap
      simp only [List.length_append, List.length_drop, List.length_take] at hlen
      refine ACode.skip ?_
      refine ACode.seq ?_
      refine ACode.block ?_
      refine ACode.seq ?_
      refine ACode.region [0, 7, 8, 10, 18, 19, 20] rfl fun K1 hK => ?_
      simp -implicitDefEqProofs only [go_sem, ↓reduceIte, Nat.reduceEqDiff, Nat.reduceAdd, Nat.reduceSub, Nat.reduceMul, Nat.reduceLeDiff, reduceCtorEq, Bool.false_eq_true, Nat.reduceLT, aAppend, hx, eEdit]
      intro u hu
      refine hK _ _ ?_ _ (by simp -implicitDefEqProofs only [go_sem, ↓reduceIte, Nat.reduceEqDiff, Nat.reduceAdd, Nat.reduceSub, Nat.reduceMul, Nat.reduceLeDiff, reduceCtorEq, Bool.false_eq_true, Nat.reduceLT]; rfl); clear hK K1
      refine ACode.freeze1 u 10 (Heap.upd_same _ _ _) ?_
      simp -implicitDefEqProofs only [go_sem, ↓reduceIte, Nat.reduceEqDiff, Nat.reduceAdd, Nat.reduceSub, Nat.reduceMul, Nat.reduceLeDiff, reduceCtorEq, Bool.false_eq_true, Nat.reduceLT, aAppend, Heap.erase_upd_same _ u _ hu]
      refine ACode.seq ?_
      refine ACode.region [0, 7, 10, 18, 19, 20] rfl fun K1 hK => ?_
      simp -implicitDefEqProofs only [go_sem, ↓reduceIte, Nat.reduceEqDiff, Nat.reduceAdd, Nat.reduceSub, Nat.reduceMul, Nat.reduceLeDiff, reduceCtorEq, Bool.false_eq_true, Nat.reduceLT, aAppend]
      refine ⟨by omega, by omega, ?_⟩
      refine c44 H b out ((s.take y.From.toNat).drop at_) (by simp only [List.length_drop, List.length_take]; omega) H' hB _ fun H2 hB2 => ?_
      simp -implicitDefEqProofs only [go_sem, ↓reduceIte, Nat.reduceEqDiff, Nat.reduceAdd, Nat.reduceSub, Nat.reduceMul, Nat.reduceLeDiff, reduceCtorEq, Bool.false_eq_true, Nat.reduceLT, aAppend]
      refine hK _ _ ?_ _ (by simp -implicitDefEqProofs only [go_sem, ↓reduceIte, Nat.reduceEqDiff, Nat.reduceAdd, Nat.reduceSub, Nat.reduceMul, Nat.reduceLeDiff, reduceCtorEq, Bool.false_eq_true, Nat.reduceLT]; rfl); clear hK K1
      refine ACode.seq ?_
      refine ACode.region [0, 7, 10, 18, 19, 20] rfl fun K1 hK => ?_
      simp -implicitDefEqProofs only [go_sem, ↓reduceIte, Nat.reduceEqDiff, Nat.reduceAdd, Nat.reduceSub, Nat.reduceMul, Nat.reduceLeDiff, reduceCtorEq, Bool.false_eq_true, Nat.reduceLT, aAppend]
      refine c44 H b _ y.Text (by simp only [List.length_append, List.length_drop, List.length_take]; omega) H2 hB2 _ fun H3 hB3 => ?_
      simp -implicitDefEqProofs only [go_sem, ↓reduceIte, Nat.reduceEqDiff, Nat.reduceAdd, Nat.reduceSub, Nat.reduceMul, Nat.reduceLeDiff, reduceCtorEq, Bool.false_eq_true, Nat.reduceLT, aAppend]
      refine hK _ _ ?_ _ (by simp -implicitDefEqProofs only [go_sem, ↓reduceIte, Nat.reduceEqDiff, Nat.reduceAdd, Nat.reduceSub, Nat.reduceMul, Nat.reduceLeDiff, reduceCtorEq, Bool.false_eq_true, Nat.reduceLT]; rfl); clear hK K1
      refine ACode.region [0, 7, 8, 18, 19, 20] rfl fun K1 hK => ?_
      simp -implicitDefEqProofs only [go_sem, ↓reduceIte, Nat.reduceEqDiff, Nat.reduceAdd, Nat.reduceSub, Nat.reduceMul, Nat.reduceLeDiff, reduceCtorEq, Bool.false_eq_true, Nat.reduceLT, aAppend]
      refine hK _ _ ?_ _ (by simp -implicitDefEqProofs only [go_sem, ↓reduceIte, Nat.reduceEqDiff, Nat.reduceAdd, Nat.reduceSub, Nat.reduceMul, Nat.reduceLeDiff, reduceCtorEq, Bool.false_eq_true, Nat.reduceLT]; rfl); clear hK K1
      refine ACode.region [0, 7, 8, 18, 19, 20] rfl fun K1 hK => ?_
      simp -implicitDefEqProofs only [go_sem, ↓reduceIte, Nat.reduceEqDiff, Nat.reduceAdd, Nat.reduceSub, Nat.reduceMul, Nat.reduceLeDiff, reduceCtorEq, Bool.false_eq_true, Nat.reduceLT, aAppend]
      rw [wrap_i64 (by omega) (by omega)]
      refine hK _ _ ?_ _ (by simp -implicitDefEqProofs only [go_sem, ↓reduceIte, Nat.reduceEqDiff, Nat.reduceAdd, Nat.reduceSub, Nat.reduceMul, Nat.reduceLeDiff, reduceCtorEq, Bool.false_eq_true, Nat.reduceLT]; rfl); clear hK K1
      refine ⟨_, by omega, k + 1, y.To.toNat, y.To, _, rfl, by omega, d6, by omega, by omega, ?_, hB3, by simp <;> omega⟩
      rw [hap]; simp
    · -- no
      try simp only [decide_eq_false_iff_not] at h
      refine ACode.exit ?_
      rw [drop_end l k h, appFrom] at hap
      have hlen := congrArg List.length hap
      simp only [List.length_append, List.length_drop] at hlen
      refine ACode.seq ?_
      refine ACode.region [7] rfl fun K1 hK => ?_
      simp -implicitDefEqProofs only [go_sem, ↓reduceIte, Nat.reduceEqDiff, Nat.reduceAdd, Nat.reduceSub, Nat.reduceMul, Nat.reduceLeDiff, reduceCtorEq, Bool.false_eq_true, Nat.reduceLT, aAppend]
      refine ⟨by omega, by omega, ?_⟩
      refine c44 H b out ((s.take s.length).drop at_) (by simp only [List.length_drop, List.length_take]; omega) H' hB _ fun H2 hB2 => ?_
      simp -implicitDefEqProofs only [go_sem, ↓reduceIte, Nat.reduceEqDiff, Nat.reduceAdd, Nat.reduceSub, Nat.reduceMul, Nat.reduceLeDiff, reduceCtorEq, Bool.false_eq_true, Nat.reduceLT, aAppend]
      refine hK _ _ ?_ _ (by simp -implicitDefEqProofs only [go_sem, ↓reduceIte, Nat.reduceEqDiff, Nat.reduceAdd, Nat.reduceSub, Nat.reduceMul, Nat.reduceLeDiff, reduceCtorEq, Bool.false_eq_true, Nat.reduceLT]; rfl); clear hK K1
      refine ACode.seq ?_
      refine ACode.region [4, 5] rfl fun K1 hK => ?_
      simp -implicitDefEqProofs only [go_sem, ↓reduceIte, Nat.reduceEqDiff, Nat.reduceAdd, Nat.reduceSub, Nat.reduceMul, Nat.reduceLeDiff, reduceCtorEq, Bool.false_eq_true, Nat.reduceLT, aAppend]
      refine c45 H b _ (by simp only [List.length_append, List.length_drop, List.length_take]; omega) H2 hB2 _ ?_
      simp -implicitDefEqProofs only [go_sem, ↓reduceIte, Nat.reduceEqDiff, Nat.reduceAdd, Nat.reduceSub, Nat.reduceMul, Nat.reduceLeDiff, reduceCtorEq, Bool.false_eq_true, Nat.reduceLT, aAppend]
      refine hK _ _ ?_ _ (by simp -implicitDefEqProofs only [go_sem, ↓reduceIte, Nat.reduceEqDiff, Nat.reduceAdd, Nat.reduceSub, Nat.reduceMul, Nat.reduceLeDiff, reduceCtorEq, Bool.false_eq_true, Nat.reduceLT]; rfl); clear hK K1
      refine ACode.ret ?_
      have e : out ++ (s.take s.length).drop at_ = out ++ s.drop at_ := by simp
      rw [e]
      rw [hap] at hk
      exact hk


theorem edit34 : Edit34 := fun s l hs hl ht hf H K hk => c34 s l hs hl ht hf H K hk

end Go.Flow

