/-
  The document's example, walked. No condition.
-/
import Derived.Test.YtlcggoafbafldaaHistW
set_option linter.unusedVariables false
set_option linter.unusedSimpArgs false
set_option maxRecDepth 20000
namespace Go.Flow
open Go Go.Proofs

/-- a history of our own, laid since the resources were H0 -/
structure Lone (H0 : Heap) (F : Nat → Prop) (H : Heap) : Prop where
  base : ∀ d, F d → H0 d = none
  le : Heap.le H0 H

theorem Lone.moved {H0 H H1 : Heap} {F F' : Nat → Prop} (h : Lone H0 F H) (hm : Moved F F' H H1) : Lone H0 F' H1 where
  base d hd := by
    rcases hm.1 d hd with h' | h'
    · exact h.base d h'
    · cases e : H0 d with
      | none => rfl
      | some r => rw [h.le d r e] at h'; cases h'
  le d r hr := hm.2 d r (h.le d r hr) fun hf => by rw [h.base d hf] at hr; cases hr

theorem PAt.new {H : Heap} {b : Nat} {now : List Mod} (hb : H b = none) : PAt 1 (H.upd b (.box (.agg [.sl (now.map eMod), .v (.slice none 0 0), .v (.slice none 0 0)]))) b now [] [] (fun d => d = b) :=
  ⟨_, _, Heap.upd_same _ _ _, .inl ⟨rfl, rfl⟩, .inl ⟨rfl, rfl⟩, blk_nil, blk_nil, fun _ h => absurd h blk_nil, fun d => ⟨.inl, fun h => h.resolve_right fun h => h.elim blk_nil blk_nil⟩⟩
theorem Lone.new {H : Heap} {b : Nat} {r : Res} (hb : H b = none) : Lone H (fun d => d = b) (H.upd b r) := ⟨fun d hd => by subst hd; exact hb, Heap.le_upd hb⟩

def exM0 : Mod := ⟨[109, 97, 105, 110], [97, 98]⟩
def exM1 : Mod := ⟨[109, 97, 105, 110], [97, 120]⟩
def exC : List Change := [⟨[109, 97, 105, 110], [⟨1, 2, [120]⟩]⟩]
def exU : List Change := [⟨[109, 97, 105, 110], [⟨1, 2, [98]⟩]⟩]
theorem ex_sort : sortMods [exM0] = [exM0] := by decide
theorem ex_do : applyC [exM0] [] exC = ([exM1], 0) := by decide
theorem ex_undo : applyC [exM1] [] exU = ([exM0], 0) := by decide
theorem ex_inv : undoOf [exM0] exC = exU := by rfl

theorem eMod_exM0 : [exM0].map eMod = [AV.agg [.v (.string (mkS [109, 97, 105, 110])), .v (.string (mkS [97, 98]))]] := rfl
theorem eMod_exM1 : [exM1].map eMod = [AV.agg [.v (.string (mkS [109, 97, 105, 110])), .v (.string (mkS [97, 120]))]] := rfl
theorem exC_map : exC.map eChange = [AV.agg [.v (.string (mkS [109, 97, 105, 110])), .sl [AV.agg [.v (.int .i64 1), .v (.int .i64 2), .v (.string (mkS [120]))]]]] := rfl

/-- whetstone/whetstonelaw31.awake -/
theorem c5 (H : Heap) (K : AV → Heap → Prop) (hk : K (boo true) H) : ACalls Try.prog 5 [] H K := by
  refine ACalls.of_code Try.func5 rfl (by kernel_rfl) rfl (by simp [Try.ntmps5]) ?_
  rw [Try.ntmps5, Try.results5]; simp -implicitDefEqProofs only [go_sem, ↓reduceIte, Nat.reduceEqDiff, Nat.reduceAdd, Nat.reduceSub, Nat.reduceMul, Nat.reduceLeDiff, reduceCtorEq, Bool.false_eq_true, Nat.reduceLT, aAppend]
  refine ACode.seq ?_
  refine ACode.region [] rfl fun K1 hK => ?_
  simp -implicitDefEqProofs only [go_sem, ↓reduceIte, Nat.reduceEqDiff, Nat.reduceAdd, Nat.reduceSub, Nat.reduceMul, Nat.reduceLeDiff, reduceCtorEq, Bool.false_eq_true, Nat.reduceLT, aAppend]
  refine hK _ _ ?_ _ (by simp -implicitDefEqProofs only [go_sem, ↓reduceIte, Nat.reduceEqDiff, Nat.reduceAdd, Nat.reduceSub, Nat.reduceMul, Nat.reduceLeDiff, reduceCtorEq, Bool.false_eq_true, Nat.reduceLT]; rfl); clear hK K1
  refine ACode.seq ?_
  refine ACode.region_cut [1, 2] (fun ρ' H1 => ∃ b F, PAt 1 H1 b [exM0] [] [] F ∧ Lone H F H1 ∧ ρ' = [(1, .bp b 0 []), (2, int 0)]) rfl (fun K1 hK => ?_) ?_
  · simp -implicitDefEqProofs only [go_sem, ↓reduceIte, Nat.reduceEqDiff, Nat.reduceAdd, Nat.reduceSub, Nat.reduceMul, Nat.reduceLeDiff, reduceCtorEq, Bool.false_eq_true, Nat.reduceLT, aAppend]
    intro q hq
    refine ACalls.freeze q (Heap.upd_same _ _ _) ?_
    simp -implicitDefEqProofs only [go_sem, ↓reduceIte, Nat.reduceEqDiff, Nat.reduceAdd, Nat.reduceSub, Nat.reduceMul, Nat.reduceLeDiff, reduceCtorEq, Bool.false_eq_true, Nat.reduceLT, aAppend, Heap.erase_upd_same _ q _ hq]
    refine c6 [exM0] (by decide) H _ (fun h => by rw [ex_sort] at h; cases h) fun _ b hb => ?_
    rw [ex_sort]
    simp -implicitDefEqProofs only [go_sem, ↓reduceIte, Nat.reduceEqDiff, Nat.reduceAdd, Nat.reduceSub, Nat.reduceMul, Nat.reduceLeDiff, reduceCtorEq, Bool.false_eq_true, Nat.reduceLT, aAppend]
    exact hK _ _ ⟨b, _, PAt.new hb, Lone.new hb, rfl⟩ _ (by simp -implicitDefEqProofs only [go_sem, ↓reduceIte, Nat.reduceEqDiff, Nat.reduceAdd, Nat.reduceSub, Nat.reduceMul, Nat.reduceLeDiff, reduceCtorEq, Bool.false_eq_true, Nat.reduceLT, aAppend] <;> rfl)
  rintro ρ' H1 ⟨b, F, hP, hL, rfl⟩
  refine ACode.seq ?_
  refine ACode.region_cut [1, 2, 3] (fun ρ' H2 => ∃ F, PAt 2 H2 b [exM1] [⟨[120], exC, exU⟩] [] F ∧ Lone H F H2 ∧ ρ' = [(1, .bp b 0 []), (2, int 0), (3, int 0)]) rfl (fun K1 hK => ?_) ?_
  · simp -implicitDefEqProofs only [go_sem, ↓reduceIte, Nat.reduceEqDiff, Nat.reduceAdd, Nat.reduceSub, Nat.reduceMul, Nat.reduceLeDiff, reduceCtorEq, Bool.false_eq_true, Nat.reduceLT, aAppend]
    intro q hq c hc
    have hcq : c ≠ q := fun e => by subst e; rw [Heap.upd_same] at hc; cases hc
    have hc1 : H1 c = none := by rwa [Heap.upd_other _ _ hcq] at hc
    refine ACalls.freezeIn q c (by rw [Heap.upd_other _ _ (Ne.symm hcq)]; exact Heap.upd_same _ _ _) (Heap.upd_same _ _ _) hcq ?_ ?_
    · intro x hx
      have hx' : x = AV.agg [.v (.string (mkS [109, 97, 105, 110])), AV.fz q (.arr 3 [AV.agg [.v (.int .i64 1), .v (.int .i64 2), .v (.string (mkS [120]))]]) (.slr q 3 0 1)] := by simpa [AV.fzs, AV.fz] using hx
      subst hx'
      simp [AV.fz, fzSlr, AV.size, AV.sizes]
    obtain ⟨rb, hrb⟩ : ∃ r, H1 b = some r := by
      obtain ⟨p0, q0, h1, -⟩ := hP
      exact ⟨_, h1⟩
    have hbq : b ≠ q := fun e => by subst e; rw [hrb] at hq; cases hq
    have hbc : b ≠ c := fun e => by subst e; rw [hrb] at hc1; cases hc1
    have eA : AV.fzs q (.arr 3 [AV.agg [.v (.int .i64 1), .v (.int .i64 2), .v (.string (mkS [120]))]]) [.bp b 0 [], .v (.string (mkS [120])), .slr c 2 0 1] = [.bp b 0 [], .v (.string (mkS [120])), .slr c 2 0 1] := by
      simp [AV.fzs, AV.fz, fzBp, fzSlr, hbq, hcq]
    have eR : AV.fzs q (.arr 3 [AV.agg [.v (.int .i64 1), .v (.int .i64 2), .v (.string (mkS [120]))]]) [AV.agg [.v (.string (mkS [109, 97, 105, 110])), .slr q 3 0 1]] = exC.map eChange := by
      simp [AV.fzs, AV.fz, fzSlr, exC, eChange, eEdit, str, int]
    rw [eA, eR]
    refine ACalls.freeze c (Heap.upd_same _ _ _) ?_
    have eB : AV.fzs c (.arr 2 (exC.map eChange)) [.bp b 0 [], .v (.string (mkS [120])), .slr c 2 0 1] = [.bp b 0 [], str [120], .sl (exC.map eChange)] := by
      simp [AV.fzs, AV.fz, fzBp, fzSlr, hbc, exC, str]
    rw [eB]
    have eH : ((((H1.upd q (.arr 3 [AV.agg [.v (.int .i64 1), .v (.int .i64 2), .v (.string (mkS [120]))]])).upd c (.arr 2 [AV.agg [.v (.string (mkS [109, 97, 105, 110])), .slr q 3 0 1]])).erase q).upd c (.arr 2 (exC.map eChange))).erase c = H1 := by
      funext d
      simp only [Heap.erase, Heap.upd]
      by_cases e1 : d = c
      · subst e1; simp [hc1]
      · by_cases e2 : d = q
        · subst e2; simp [e1, hq]
        · simp [e1, e2]
    rw [eH]
    have hd : (applyC [exM0] [] exC).2 = 0 := by rw [ex_do]
    refine p9 (by decide) hP [120] exC (by decide) (by decide) (by decide) (by decide) ⟨2, by decide, by decide⟩ (fun _ c hc => ?_) _ (fun h => absurd hd h) fun _ F' H2 g1 g2 => ?_
    · obtain ⟨-, i, m, f1, f2, f3, f4⟩ := applyC_fit exC [exM0] [] hd c hc
      refine ⟨i, m, f1, f2, ?_, f4⟩
      have := List.mem_of_getElem? f2
      rw [List.mem_singleton] at this
      subst this; decide
    · rw [ex_do, ex_inv] at g1
      simp -implicitDefEqProofs only [go_sem, ↓reduceIte, Nat.reduceEqDiff, Nat.reduceAdd, Nat.reduceSub, Nat.reduceMul, Nat.reduceLeDiff, reduceCtorEq, Bool.false_eq_true, Nat.reduceLT, aAppend]
      exact hK _ _ ⟨F', g1, hL.moved g2, rfl⟩ _ (by simp -implicitDefEqProofs only [go_sem, ↓reduceIte, Nat.reduceEqDiff, Nat.reduceAdd, Nat.reduceSub, Nat.reduceMul, Nat.reduceLeDiff, reduceCtorEq, Bool.false_eq_true, Nat.reduceLT, aAppend] <;> rfl)
  rintro ρ' H2 ⟨F2, hP2, hL2, rfl⟩
  refine ACode.seq ?_
  refine ACode.region [1, 2, 3, 4] rfl fun K1 hK => ?_
  simp -implicitDefEqProofs only [go_sem, ↓reduceIte, Nat.reduceEqDiff, Nat.reduceAdd, Nat.reduceSub, Nat.reduceMul, Nat.reduceLeDiff, reduceCtorEq, Bool.false_eq_true, Nat.reduceLT, aAppend]
  refine p17 hP2 (by decide) _ ?_
  simp -implicitDefEqProofs only [go_sem, ↓reduceIte, Nat.reduceEqDiff, Nat.reduceAdd, Nat.reduceSub, Nat.reduceMul, Nat.reduceLeDiff, reduceCtorEq, Bool.false_eq_true, Nat.reduceLT, aAppend]
  refine hK _ _ ?_ _ (by simp -implicitDefEqProofs only [go_sem, ↓reduceIte, Nat.reduceEqDiff, Nat.reduceAdd, Nat.reduceSub, Nat.reduceMul, Nat.reduceLeDiff, reduceCtorEq, Bool.false_eq_true, Nat.reduceLT]; rfl); clear hK K1
  refine ACode.seq ?_
  refine ACode.region_cut [1, 2, 3, 4, 5, 6] (fun ρ' H3 => ∃ F, PAt 3 H3 b [exM0] [] [⟨[120], exC, exU⟩] F ∧ Lone H F H3 ∧ ρ' = [(1, .bp b 0 []), (2, int 0), (3, int 0), (4, .sl ([exM1].map eMod)), (5, str [120]), (6, int 0)]) rfl (fun K1 hK => ?_) ?_
  · simp -implicitDefEqProofs only [go_sem, ↓reduceIte, Nat.reduceEqDiff, Nat.reduceAdd, Nat.reduceSub, Nat.reduceMul, Nat.reduceLeDiff, reduceCtorEq, Bool.false_eq_true, Nat.reduceLT, aAppend]
    refine p11s (ps := []) (by decide) hP2 (by decide) (by decide) (by decide) ⟨2, by decide, by decide⟩ ex_undo _ fun F3 H3 g1 g2 => ?_
    simp -implicitDefEqProofs only [go_sem, ↓reduceIte, Nat.reduceEqDiff, Nat.reduceAdd, Nat.reduceSub, Nat.reduceMul, Nat.reduceLeDiff, reduceCtorEq, Bool.false_eq_true, Nat.reduceLT, aAppend]
    exact hK _ _ ⟨F3, g1, hL2.moved g2, rfl⟩ _ (by simp -implicitDefEqProofs only [go_sem, ↓reduceIte, Nat.reduceEqDiff, Nat.reduceAdd, Nat.reduceSub, Nat.reduceMul, Nat.reduceLeDiff, reduceCtorEq, Bool.false_eq_true, Nat.reduceLT, aAppend] <;> rfl)
  rintro ρ' H3 ⟨F3, hP3, hL3, rfl⟩
  refine ACode.seq ?_
  refine ACode.region [2, 3, 4, 5, 6, 7] rfl fun K1 hK => ?_
  simp -implicitDefEqProofs only [go_sem, ↓reduceIte, Nat.reduceEqDiff, Nat.reduceAdd, Nat.reduceSub, Nat.reduceMul, Nat.reduceLeDiff, reduceCtorEq, Bool.false_eq_true, Nat.reduceLT, aAppend]
  refine p17 hP3 (by decide) _ ?_
  simp -implicitDefEqProofs only [go_sem, ↓reduceIte, Nat.reduceEqDiff, Nat.reduceAdd, Nat.reduceSub, Nat.reduceMul, Nat.reduceLeDiff, reduceCtorEq, Bool.false_eq_true, Nat.reduceLT, aAppend]
  refine hK _ _ ?_ _ (by simp -implicitDefEqProofs only [go_sem, ↓reduceIte, Nat.reduceEqDiff, Nat.reduceAdd, Nat.reduceSub, Nat.reduceMul, Nat.reduceLeDiff, reduceCtorEq, Bool.false_eq_true, Nat.reduceLT]; rfl); clear hK K1
  refine ACode.drop (H' := H) ?_ hL3.le
  refine ACode.seq ?_
  refine ACode.region [0] rfl fun K1 hK => ?_
  simp -implicitDefEqProofs only [go_sem, ↓reduceIte, Nat.reduceEqDiff, Nat.reduceAdd, Nat.reduceSub, Nat.reduceMul, Nat.reduceLeDiff, reduceCtorEq, Bool.false_eq_true, Nat.reduceLT, aAppend, eMod, exM0, exM1, show ((1 : Nat) : Int) = 1 from rfl]
  refine hK _ _ ?_ _ (by simp -implicitDefEqProofs only [go_sem, ↓reduceIte, Nat.reduceEqDiff, Nat.reduceAdd, Nat.reduceSub, Nat.reduceMul, Nat.reduceLeDiff, reduceCtorEq, Bool.false_eq_true, Nat.reduceLT]; rfl); clear hK K1
  refine ACode.ret ?_
  exact hk


end Go.Flow

