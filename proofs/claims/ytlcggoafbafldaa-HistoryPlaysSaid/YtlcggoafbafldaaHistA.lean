/-
  Edits: what a sound list of edits is; the program's and the reference's answer. No condition.
-/
import Derived.Test.YtlcggoafbafldaaFacts
set_option linter.unusedVariables false
set_option linter.unusedSimpArgs false
set_option maxRecDepth 20000
namespace Go.Flow
open Go Go.Proofs

structure Edit where
  From : Int
  To : Int
  Text : List UInt8
deriving DecidableEq

def eEdit (x : Edit) : AV := .agg [int x.From, int x.To, str x.Text]

theorem eEdit_size (x : Edit) : (eEdit x).size = 3 := by simp [eEdit, AV.size, AV.sizes, int, str]

def soundFrom (n last : Int) : List Edit → Int
  | [] => 0
  | x :: r => if x.From < 0 ∨ x.To < x.From ∨ n < x.To then 6 else if x.From = x.To ∧ x.Text = [] then 1 else if x.From ≤ last then 7 else soundFrom n x.To r
def Sound (l : List Edit) (n : Int) : Int := if 512 < l.length then 5 else soundFrom n (-1) l

/-- whetstone/edit.Sound -/
theorem c35 (l : List Edit) (n : Int) (hl : l.length ≤ 1000000000000) (H : Heap) (K : AV → Heap → Prop) (hk : K (int (Sound l n)) H) : ACalls Try.prog 35 [.sl (l.map eEdit), int n] H K := by
  refine ACalls.of_code Try.func35 rfl (by kernel_rfl) rfl (by simp [Try.ntmps35]) ?_
  rw [Try.ntmps35, Try.results35]; simp -implicitDefEqProofs only [go_sem, ↓reduceIte, Nat.reduceEqDiff, Nat.reduceAdd, Nat.reduceSub, Nat.reduceMul, Nat.reduceLeDiff, reduceCtorEq, Bool.false_eq_true, Nat.reduceLT, aAppend]
  refine ACode.seq ?_
  refine ACode.region [0, 1] rfl fun K1 hK => ?_
  simp -implicitDefEqProofs only [go_sem, ↓reduceIte, Nat.reduceEqDiff, Nat.reduceAdd, Nat.reduceSub, Nat.reduceMul, Nat.reduceLeDiff, reduceCtorEq, Bool.false_eq_true, Nat.reduceLT, aAppend]
  refine hK _ _ ?_ _ (by simp -implicitDefEqProofs only [go_sem, ↓reduceIte, Nat.reduceEqDiff, Nat.reduceAdd, Nat.reduceSub, Nat.reduceMul, Nat.reduceLeDiff, reduceCtorEq, Bool.false_eq_true, Nat.reduceLT]; rfl); clear hK K1
  refine ACode.seq ?_
  refine ACode.seq ?_
  refine ACode.region [0, 1, 10] rfl fun K1 hK => ?_
  simp -implicitDefEqProofs only [go_sem, ↓reduceIte, Nat.reduceEqDiff, Nat.reduceAdd, Nat.reduceSub, Nat.reduceMul, Nat.reduceLeDiff, reduceCtorEq, Bool.false_eq_true, Nat.reduceLT, aAppend]
  refine hK _ _ ?_ _ (by simp -implicitDefEqProofs only [go_sem, ↓reduceIte, Nat.reduceEqDiff, Nat.reduceAdd, Nat.reduceSub, Nat.reduceMul, Nat.reduceLeDiff, reduceCtorEq, Bool.false_eq_true, Nat.reduceLT]; rfl); clear hK K1
  refine ACode.cond rfl (fun h => ?_) (fun h => ?_)
  · -- yes
    refine ACode.seq ?_
    refine ACode.region [4] rfl fun K1 hK => ?_
    simp -implicitDefEqProofs only [go_sem, ↓reduceIte, Nat.reduceEqDiff, Nat.reduceAdd, Nat.reduceSub, Nat.reduceMul, Nat.reduceLeDiff, reduceCtorEq, Bool.false_eq_true, Nat.reduceLT, aAppend]
    refine hK _ _ ?_ _ (by simp -implicitDefEqProofs only [go_sem, ↓reduceIte, Nat.reduceEqDiff, Nat.reduceAdd, Nat.reduceSub, Nat.reduceMul, Nat.reduceLeDiff, reduceCtorEq, Bool.false_eq_true, Nat.reduceLT]; rfl); clear hK K1
    refine ACode.ret ?_
    simp only [decide_eq_true_eq] at h
    rw [Sound, if_pos (by omega)] at hk
    exact hk
  simp only [decide_eq_false_iff_not] at h
  rw [Sound, if_neg (by omega)] at hk
  refine ACode.skip ?_
  refine ACode.seq ?_
  refine ACode.region [0, 1, 5] rfl fun K1 hK => ?_
  simp -implicitDefEqProofs only [go_sem, ↓reduceIte, Nat.reduceEqDiff, Nat.reduceAdd, Nat.reduceSub, Nat.reduceMul, Nat.reduceLeDiff, reduceCtorEq, Bool.false_eq_true, Nat.reduceLT, aAppend]
  refine hK _ _ ?_ _ (by simp -implicitDefEqProofs only [go_sem, ↓reduceIte, Nat.reduceEqDiff, Nat.reduceAdd, Nat.reduceSub, Nat.reduceMul, Nat.reduceLeDiff, reduceCtorEq, Bool.false_eq_true, Nat.reduceLT]; rfl); clear hK K1
  refine ACode.seq ?_
  refine ACode.seq ?_
  refine ACode.region [1, 5, 11, 12, 13] rfl fun K1 hK => ?_
  simp -implicitDefEqProofs only [go_sem, ↓reduceIte, Nat.reduceEqDiff, Nat.reduceAdd, Nat.reduceSub, Nat.reduceMul, Nat.reduceLeDiff, reduceCtorEq, Bool.false_eq_true, Nat.reduceLT, aAppend]
  refine hK _ _ ?_ _ (by simp -implicitDefEqProofs only [go_sem, ↓reduceIte, Nat.reduceEqDiff, Nat.reduceAdd, Nat.reduceSub, Nat.reduceMul, Nat.reduceLeDiff, reduceCtorEq, Bool.false_eq_true, Nat.reduceLT]; rfl); clear hK K1
  refine ACode.block ?_
  refine ACode.loop (fun m ρ H' => ∃ (k : Nat) (last : Int), m = l.length - k ∧ k ≤ l.length ∧ soundFrom n (-1) l = soundFrom n last (l.drop k) ∧ H' = H ∧ ρ = [(1, int n), (5, int last), (11, .sl (l.map eEdit)), (12, int l.length), (13, int k)]) l.length ⟨0, -1, rfl, Nat.zero_le _, rfl, rfl, rfl⟩ ?_
  rintro m ρ H' ⟨k, last, rfl, hkl, hs, rfl, rfl⟩
  simp -implicitDefEqProofs only [go_sem, ↓reduceIte, Nat.reduceEqDiff, Nat.reduceAdd, Nat.reduceSub, Nat.reduceMul, Nat.reduceLeDiff, reduceCtorEq, Bool.false_eq_true, Nat.reduceLT, aAppend]
  refine ACode.seq ?_
  refine ACode.region [1, 5, 11, 12, 13, 14] rfl fun K1 hK => ?_
  simp -implicitDefEqProofs only [go_sem, ↓reduceIte, Nat.reduceEqDiff, Nat.reduceAdd, Nat.reduceSub, Nat.reduceMul, Nat.reduceLeDiff, reduceCtorEq, Bool.false_eq_true, Nat.reduceLT, aAppend]
  refine hK _ _ ?_ _ (by simp -implicitDefEqProofs only [go_sem, ↓reduceIte, Nat.reduceEqDiff, Nat.reduceAdd, Nat.reduceSub, Nat.reduceMul, Nat.reduceLeDiff, reduceCtorEq, Bool.false_eq_true, Nat.reduceLT]; rfl); clear hK K1
  refine ACode.seq ?_
  refine ACode.cond rfl (fun h => ?_) (fun h => ?_)
  rotate_left
  · -- no
    refine ACode.exit ?_
    simp only [decide_eq_false_iff_not] at h
    rw [hs, List.drop_eq_nil_of_le (by omega), soundFrom] at hk
    refine ACode.seq ?_
    refine ACode.region [4] rfl fun K1 hK => ?_
    simp -implicitDefEqProofs only [go_sem, ↓reduceIte, Nat.reduceEqDiff, Nat.reduceAdd, Nat.reduceSub, Nat.reduceMul, Nat.reduceLeDiff, reduceCtorEq, Bool.false_eq_true, Nat.reduceLT, aAppend]
    refine hK _ _ ?_ _ (by simp -implicitDefEqProofs only [go_sem, ↓reduceIte, Nat.reduceEqDiff, Nat.reduceAdd, Nat.reduceSub, Nat.reduceMul, Nat.reduceLeDiff, reduceCtorEq, Bool.false_eq_true, Nat.reduceLT]; rfl); clear hK K1
    refine ACode.ret ?_
    exact hk
  simp only [decide_eq_true_eq] at h
  obtain ⟨x, hx⟩ : ∃ x, l[k]? = some x := ⟨l[k]'(by omega), by simp⟩
  have hd : l.drop k = x :: l.drop (k + 1) := by
    have hlt : k < l.length := by omega
    rw [List.getElem?_eq_getElem hlt] at hx
    rw [← Option.some.inj hx, ← List.drop_eq_getElem_cons hlt]
  refine ACode.skip ?_
  refine ACode.seq ?_
  refine ACode.block ?_
  refine ACode.seq ?_
  refine ACode.region [1, 5, 7, 11, 12, 13] rfl fun K1 hK => ?_
  simp -implicitDefEqProofs only [go_sem, ↓reduceIte, Nat.reduceEqDiff, Nat.reduceAdd, Nat.reduceSub, Nat.reduceMul, Nat.reduceLeDiff, reduceCtorEq, Bool.false_eq_true, Nat.reduceLT, aAppend, hx, eEdit]
  refine ⟨by omega, fun b hb => ?_⟩
  refine hK _ _ ?_ _ (by simp -implicitDefEqProofs only [go_sem, ↓reduceIte, Nat.reduceEqDiff, Nat.reduceAdd, Nat.reduceSub, Nat.reduceMul, Nat.reduceLeDiff, reduceCtorEq, Bool.false_eq_true, Nat.reduceLT]; rfl); clear hK K1
  refine ACode.freeze b (Heap.upd_same _ _ _) ?_
  simp -implicitDefEqProofs only [go_sem, ↓reduceIte, Nat.reduceEqDiff, Nat.reduceAdd, Nat.reduceSub, Nat.reduceMul, Nat.reduceLeDiff, reduceCtorEq, Bool.false_eq_true, Nat.reduceLT, aAppend, Heap.erase_upd_same _ b _ hb]
  refine ACode.seq ?_
  refine ACode.block ?_
  refine ACode.seq ?_
  refine ACode.region_cut [1, 5, 7, 11, 12, 13, 17] (fun ρ' H1 => ∃ t : Bool, (t = true ↔ (x.From < 0 ∨ x.To < x.From ∨ n < x.To)) ∧ H1 = H' ∧ ρ' = [(1, int n), (5, int last), (7, .ip (eEdit x)), (11, .sl (l.map eEdit)), (12, int l.length), (13, int k), (17, boo t)]) rfl (fun K1 hK => ?_) ?_
  · by_cases h1 : x.From < 0
    · simp -implicitDefEqProofs only [go_sem, ↓reduceIte, Nat.reduceEqDiff, Nat.reduceAdd, Nat.reduceSub, Nat.reduceMul, Nat.reduceLeDiff, reduceCtorEq, Bool.false_eq_true, Nat.reduceLT, aAppend, h1]
      refine hK _ _ ⟨true, ?_, rfl, rfl⟩ _ (by simp -implicitDefEqProofs only [go_sem, ↓reduceIte, Nat.reduceEqDiff, Nat.reduceAdd, Nat.reduceSub, Nat.reduceMul, Nat.reduceLeDiff, reduceCtorEq, Bool.false_eq_true, Nat.reduceLT, aAppend]; rfl); simp [h1]
    · by_cases h2 : x.To < x.From
      · simp -implicitDefEqProofs only [go_sem, ↓reduceIte, Nat.reduceEqDiff, Nat.reduceAdd, Nat.reduceSub, Nat.reduceMul, Nat.reduceLeDiff, reduceCtorEq, Bool.false_eq_true, Nat.reduceLT, aAppend, h1, h2]
        refine hK _ _ ⟨true, ?_, rfl, rfl⟩ _ (by simp -implicitDefEqProofs only [go_sem, ↓reduceIte, Nat.reduceEqDiff, Nat.reduceAdd, Nat.reduceSub, Nat.reduceMul, Nat.reduceLeDiff, reduceCtorEq, Bool.false_eq_true, Nat.reduceLT, aAppend]; rfl); simp [h2]
      · simp -implicitDefEqProofs only [go_sem, ↓reduceIte, Nat.reduceEqDiff, Nat.reduceAdd, Nat.reduceSub, Nat.reduceMul, Nat.reduceLeDiff, reduceCtorEq, Bool.false_eq_true, Nat.reduceLT, aAppend, h1, h2]
        refine hK _ _ ⟨decide (n < x.To), ?_, rfl, rfl⟩ _ (by simp -implicitDefEqProofs only [go_sem, ↓reduceIte, Nat.reduceEqDiff, Nat.reduceAdd, Nat.reduceSub, Nat.reduceMul, Nat.reduceLeDiff, reduceCtorEq, Bool.false_eq_true, Nat.reduceLT, aAppend]; rfl); simp [h1, h2]
  rintro ρ' H1 ⟨t, ht, rfl, rfl⟩
  refine ACode.cond rfl (fun h => ?_) (fun h => ?_)
  · -- yes
    subst h
    refine ACode.seq ?_
    refine ACode.region [4] rfl fun K1 hK => ?_
    simp -implicitDefEqProofs only [go_sem, ↓reduceIte, Nat.reduceEqDiff, Nat.reduceAdd, Nat.reduceSub, Nat.reduceMul, Nat.reduceLeDiff, reduceCtorEq, Bool.false_eq_true, Nat.reduceLT, aAppend]
    refine hK _ _ ?_ _ (by simp -implicitDefEqProofs only [go_sem, ↓reduceIte, Nat.reduceEqDiff, Nat.reduceAdd, Nat.reduceSub, Nat.reduceMul, Nat.reduceLeDiff, reduceCtorEq, Bool.false_eq_true, Nat.reduceLT]; rfl); clear hK K1
    refine ACode.ret ?_
    rw [hs, hd, soundFrom] at hk
    have hc := ht.1 rfl
    rw [if_pos hc] at hk
    exact hk
  subst h
  have hc : ¬ (x.From < 0 ∨ x.To < x.From ∨ n < x.To) := fun h => by simpa using ht.2 h
  refine ACode.seq ?_
  refine ACode.region_cut [1, 5, 7, 11, 12, 13, 34] (fun ρ' H2 => ∃ t : Bool, (t = true ↔ (x.From = x.To ∧ x.Text = [])) ∧ H2 = H1 ∧ ρ' = [(1, int n), (5, int last), (7, .ip (eEdit x)), (11, .sl (l.map eEdit)), (12, int l.length), (13, int k), (34, boo t)]) rfl (fun K1 hK => ?_) ?_
  · by_cases h1 : x.From = x.To
    · have hd1 : decide (x.From = x.To) = true := decide_eq_true h1
      simp -implicitDefEqProofs only [go_sem, ↓reduceIte, Nat.reduceEqDiff, Nat.reduceAdd, Nat.reduceSub, Nat.reduceMul, Nat.reduceLeDiff, reduceCtorEq, Bool.false_eq_true, Nat.reduceLT, aAppend, hd1, eEdit]
      refine hK _ _ ⟨decide (x.Text = []), ?_, rfl, rfl⟩ _ (by simp -implicitDefEqProofs only [go_sem, ↓reduceIte, Nat.reduceEqDiff, Nat.reduceAdd, Nat.reduceSub, Nat.reduceMul, Nat.reduceLeDiff, reduceCtorEq, Bool.false_eq_true, Nat.reduceLT, aAppend]; rfl); simp [h1]
    · have hd1 : decide (x.From = x.To) = false := decide_eq_false h1
      simp -implicitDefEqProofs only [go_sem, ↓reduceIte, Nat.reduceEqDiff, Nat.reduceAdd, Nat.reduceSub, Nat.reduceMul, Nat.reduceLeDiff, reduceCtorEq, Bool.false_eq_true, Nat.reduceLT, aAppend, hd1, eEdit]
      refine hK _ _ ⟨false, ?_, rfl, rfl⟩ _ (by simp -implicitDefEqProofs only [go_sem, ↓reduceIte, Nat.reduceEqDiff, Nat.reduceAdd, Nat.reduceSub, Nat.reduceMul, Nat.reduceLeDiff, reduceCtorEq, Bool.false_eq_true, Nat.reduceLT, aAppend]; rfl); simp [h1]
  rintro ρ' H2 ⟨t, ht2, rfl, rfl⟩
  refine ACode.cond rfl (fun h => ?_) (fun h => ?_)
  · -- yes
    subst h
    refine ACode.seq ?_
    refine ACode.region [4] rfl fun K1 hK => ?_
    simp -implicitDefEqProofs only [go_sem, ↓reduceIte, Nat.reduceEqDiff, Nat.reduceAdd, Nat.reduceSub, Nat.reduceMul, Nat.reduceLeDiff, reduceCtorEq, Bool.false_eq_true, Nat.reduceLT, aAppend]
    refine hK _ _ ?_ _ (by simp -implicitDefEqProofs only [go_sem, ↓reduceIte, Nat.reduceEqDiff, Nat.reduceAdd, Nat.reduceSub, Nat.reduceMul, Nat.reduceLeDiff, reduceCtorEq, Bool.false_eq_true, Nat.reduceLT]; rfl); clear hK K1
    refine ACode.ret ?_
    rw [hs, hd, soundFrom] at hk
    rw [if_neg hc, if_pos (ht2.1 rfl)] at hk
    exact hk
  subst h
  have hc2 : ¬ (x.From = x.To ∧ x.Text = []) := fun h => by simpa using ht2.2 h
  refine ACode.seq ?_
  refine ACode.region [1, 5, 7, 11, 12, 13, 45] rfl fun K1 hK => ?_
  simp -implicitDefEqProofs only [go_sem, ↓reduceIte, Nat.reduceEqDiff, Nat.reduceAdd, Nat.reduceSub, Nat.reduceMul, Nat.reduceLeDiff, reduceCtorEq, Bool.false_eq_true, Nat.reduceLT, aAppend, eEdit]
  refine hK _ _ ?_ _ (by simp -implicitDefEqProofs only [go_sem, ↓reduceIte, Nat.reduceEqDiff, Nat.reduceAdd, Nat.reduceSub, Nat.reduceMul, Nat.reduceLeDiff, reduceCtorEq, Bool.false_eq_true, Nat.reduceLT]; rfl); clear hK K1
  refine ACode.cond rfl (fun h => ?_) (fun h => ?_)
  · -- yes
    simp only [decide_eq_true_eq] at h
    refine ACode.seq ?_
    refine ACode.region [4] rfl fun K1 hK => ?_
    simp -implicitDefEqProofs only [go_sem, ↓reduceIte, Nat.reduceEqDiff, Nat.reduceAdd, Nat.reduceSub, Nat.reduceMul, Nat.reduceLeDiff, reduceCtorEq, Bool.false_eq_true, Nat.reduceLT, aAppend]
    refine hK _ _ ?_ _ (by simp -implicitDefEqProofs only [go_sem, ↓reduceIte, Nat.reduceEqDiff, Nat.reduceAdd, Nat.reduceSub, Nat.reduceMul, Nat.reduceLeDiff, reduceCtorEq, Bool.false_eq_true, Nat.reduceLT]; rfl); clear hK K1
    refine ACode.ret ?_
    rw [hs, hd, soundFrom] at hk
    rw [if_neg hc, if_neg hc2, if_pos h] at hk
    exact hk
  simp only [decide_eq_false_iff_not] at h
  refine ACode.skip ?_
  refine ACode.region [1, 5, 11, 12, 13] rfl fun K1 hK => ?_
  simp -implicitDefEqProofs only [go_sem, ↓reduceIte, Nat.reduceEqDiff, Nat.reduceAdd, Nat.reduceSub, Nat.reduceMul, Nat.reduceLeDiff, reduceCtorEq, Bool.false_eq_true, Nat.reduceLT, aAppend]
  refine hK _ _ ?_ _ (by simp -implicitDefEqProofs only [go_sem, ↓reduceIte, Nat.reduceEqDiff, Nat.reduceAdd, Nat.reduceSub, Nat.reduceMul, Nat.reduceLeDiff, reduceCtorEq, Bool.false_eq_true, Nat.reduceLT]; rfl); clear hK K1
  refine ACode.region [1, 5, 11, 12, 13] rfl fun K1 hK => ?_
  simp -implicitDefEqProofs only [go_sem, ↓reduceIte, Nat.reduceEqDiff, Nat.reduceAdd, Nat.reduceSub, Nat.reduceMul, Nat.reduceLeDiff, reduceCtorEq, Bool.false_eq_true, Nat.reduceLT, aAppend]
  rw [wrap_i64 (by omega) (by omega)]
  refine hK _ _ ⟨_, ?_, k + 1, x.To, rfl, by omega, ?_, rfl, rfl⟩ _ (by simp -implicitDefEqProofs only [go_sem, ↓reduceIte, Nat.reduceEqDiff, Nat.reduceAdd, Nat.reduceSub, Nat.reduceMul, Nat.reduceLeDiff, reduceCtorEq, Bool.false_eq_true, Nat.reduceLT, aAppend]; rfl)
  · omega
  · rw [hs, hd, soundFrom, if_neg hc, if_neg hc2, if_neg h]

end Go.Flow

