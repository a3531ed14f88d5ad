/-
  strings.Builder: what is written to one of our own, and read. No condition.
-/
import Derived.Test.YtlcggoafbafldaaFlowN
import Derived.Test.YtlcggoafbafldaaHistD
set_option linter.unusedVariables false
set_option linter.unusedSimpArgs false
set_option maxRecDepth 20000
namespace Go.Flow
open Go Go.Proofs

theorem und91 : Try.prog.underlying 91 = some (.pointer 94) := by kernel_rfl
theorem und105 : Try.prog.underlying 105 = some .unsafePointer := by kernel_rfl
theorem info94 : (Try.prog.info? 94).map (·.size) = some 2 := by kernel_rfl
theorem lies94 : liesAt Try.prog Try.prog.depth 94 (2 / Try.prog.cellsOf 94) 0 94 1 = true := by kernel_rfl

/-- (*strings.Builder).copyCheck: at first -/
theorem c49f (b : Nat) (q : AV) (hq : q.size = 1) (H : Heap) (hb : H b = some (.ty 94 (.box (.agg [.v (.pointer none), q])))) (K : AV → Heap → Prop) (hk : K (.tup []) (H.upd b (.ty 94 (.box (.agg [.bp b 0 [], q]))))) : ACalls Try.prog 49 [.bp b 0 []] H K := by
  obtain ⟨j, hj, hj2⟩ := Option.map_eq_some_iff.1 info94
  refine ACalls.of_code Try.func49 rfl (by kernel_rfl) rfl (by simp [Try.ntmps49]) ?_
  rw [Try.ntmps49, Try.results49]; simp -implicitDefEqProofs only [go_sem, ↓reduceIte, Nat.reduceEqDiff, Nat.reduceAdd, Nat.reduceSub, Nat.reduceMul, Nat.reduceLeDiff, reduceCtorEq, Bool.false_eq_true, Nat.reduceLT, aAppend]
  refine ACode.seq ?_
  refine ACode.region [0, 6] rfl fun K1 hK => ?_
  simp -implicitDefEqProofs only [go_sem, ↓reduceIte, Nat.reduceEqDiff, Nat.reduceAdd, Nat.reduceSub, Nat.reduceMul, Nat.reduceLeDiff, reduceCtorEq, Bool.false_eq_true, Nat.reduceLT, aAppend, hb, hq]
  refine hK _ _ ?_ _ (by simp -implicitDefEqProofs only [go_sem, ↓reduceIte, Nat.reduceEqDiff, Nat.reduceAdd, Nat.reduceSub, Nat.reduceMul, Nat.reduceLeDiff, reduceCtorEq, Bool.false_eq_true, Nat.reduceLT]; rfl); clear hK K1
  refine ACode.cond rfl (fun h => ?_) (fun h => ?_)
  · -- yes
    try simp only [decide_eq_true_eq] at h
    refine ACode.of_AL [] fun K1 hK => ?_
    refine AL.rule rfl rfl ?_
    simp -implicitDefEqProofs only [go_sem, ↓reduceIte, Nat.reduceEqDiff, Nat.reduceAdd, Nat.reduceSub, Nat.reduceMul, Nat.reduceLeDiff, reduceCtorEq, Bool.false_eq_true, Nat.reduceLT, aAppend]
    refine AL.rule rfl rfl ?_
    simp -implicitDefEqProofs only [go_sem, ↓reduceIte, Nat.reduceEqDiff, Nat.reduceAdd, Nat.reduceSub, Nat.reduceMul, Nat.reduceLeDiff, reduceCtorEq, Bool.false_eq_true, Nat.reduceLT, aAppend]
    refine AL.step rfl rfl fun I w a hR hG => ⟨convert 91 105 (a.eval (.tmp 8)), by simp only [execOp], ?_⟩
    have h8 := hG.eval (.tmp 8)
    simp only [Env.eval, Env.get, if_true, RepT, RepV, Rep, List.cons.injEq, and_true] at h8
    have hsh := hR.boxShape hb
    have e2 : (AV.agg [AV.v (.pointer none), q]).size = 2 := by simp [AV.size, AV.sizes, hq]
    rw [e2] at hsh
    rw [h8]
    refine .same (x := .bp b 0 []) (Lib.run_to_unsafe w ⟨b, 0, none⟩ und91 und105 hj (by rw [hj2]; decide) hsh (Nat.zero_lt_succ 1)) (by simp [RepT, RepV, Rep]) ?_ hR
    clear hR hG h8 hsh a w I
    simp -implicitDefEqProofs only [go_sem, ↓reduceIte, Nat.reduceEqDiff, Nat.reduceAdd, Nat.reduceSub, Nat.reduceMul, Nat.reduceLeDiff, reduceCtorEq, Bool.false_eq_true, Nat.reduceLT, aAppend]
    refine AL.same (g := 51) (b := b) (off := 0) (p := []) rfl rfl rfl (by kernel_rfl) (by kernel_rfl) (by kernel_rfl) (ev := Extern.AbiNoEscape.same) (by kernel_rfl) (fun v w => Lib.run_noEscape w v) ⟨_, rfl⟩ (by simp -implicitDefEqProofs only [go_sem, ↓reduceIte, Nat.reduceEqDiff, Nat.reduceAdd, Nat.reduceSub, Nat.reduceMul, Nat.reduceLeDiff, reduceCtorEq, Bool.false_eq_true, Nat.reduceLT, aAppend]) ?_
    simp -implicitDefEqProofs only [go_sem, ↓reduceIte, Nat.reduceEqDiff, Nat.reduceAdd, Nat.reduceSub, Nat.reduceMul, Nat.reduceLeDiff, reduceCtorEq, Bool.false_eq_true, Nat.reduceLT, aAppend]
    refine AL.step rfl rfl fun I w a hR hG => ⟨convert 105 91 (a.eval (.tmp 10)), by simp only [execOp], ?_⟩
    have h8 := hG.eval (.tmp 10)
    simp only [Env.eval, Env.get, if_true, RepT, RepV, Rep, List.cons.injEq, and_true] at h8
    have hsh := hR.boxShape hb
    rw [e2] at hsh
    rw [h8]
    refine .same (x := .bp b 0 []) (Lib.run_from_unsafe w ⟨b, 0, none⟩ und105 und91 hj hsh lies94) (by simp [RepT, RepV, Rep]) ?_ hR
    clear hR hG h8 hsh a w I
    simp -implicitDefEqProofs only [go_sem, ↓reduceIte, Nat.reduceEqDiff, Nat.reduceAdd, Nat.reduceSub, Nat.reduceMul, Nat.reduceLeDiff, reduceCtorEq, Bool.false_eq_true, Nat.reduceLT, aAppend]
    refine AL.run rfl ?_
    simp -implicitDefEqProofs only [go_sem, ↓reduceIte, Nat.reduceEqDiff, Nat.reduceAdd, Nat.reduceSub, Nat.reduceMul, Nat.reduceLeDiff, reduceCtorEq, Bool.false_eq_true, Nat.reduceLT, aAppend, hb, hq]
    refine hK _ _ ?_ _ (by simp -implicitDefEqProofs only [go_sem, ↓reduceIte, Nat.reduceEqDiff, Nat.reduceAdd, Nat.reduceSub, Nat.reduceMul, Nat.reduceLeDiff, reduceCtorEq, Bool.false_eq_true, Nat.reduceLT]; rfl); clear hK K1
    exact hk
  · -- no
    cases h


/-- (*strings.Builder).copyCheck: later -/
theorem c49u (b : Nat) (q : AV) (hq : q.size = 1) (H : Heap) (hb : H b = some (.ty 94 (.box (.agg [.bp b 0 [], q])))) (K : AV → Heap → Prop) (hk : K (.tup []) H) : ACalls Try.prog 49 [.bp b 0 []] H K := by
  obtain ⟨j, hj, hj2⟩ := Option.map_eq_some_iff.1 info94
  refine ACalls.of_code Try.func49 rfl (by kernel_rfl) rfl (by simp [Try.ntmps49]) ?_
  rw [Try.ntmps49, Try.results49]; simp -implicitDefEqProofs only [go_sem, ↓reduceIte, Nat.reduceEqDiff, Nat.reduceAdd, Nat.reduceSub, Nat.reduceMul, Nat.reduceLeDiff, reduceCtorEq, Bool.false_eq_true, Nat.reduceLT, aAppend]
  refine ACode.seq ?_
  refine ACode.region [0, 6] rfl fun K1 hK => ?_
  simp -implicitDefEqProofs only [go_sem, ↓reduceIte, Nat.reduceEqDiff, Nat.reduceAdd, Nat.reduceSub, Nat.reduceMul, Nat.reduceLeDiff, reduceCtorEq, Bool.false_eq_true, Nat.reduceLT, aAppend, hb, hq]
  refine hK _ _ ?_ _ (by simp -implicitDefEqProofs only [go_sem, ↓reduceIte, Nat.reduceEqDiff, Nat.reduceAdd, Nat.reduceSub, Nat.reduceMul, Nat.reduceLeDiff, reduceCtorEq, Bool.false_eq_true, Nat.reduceLT]; rfl); clear hK K1
  refine ACode.cond rfl (fun h => ?_) (fun h => ?_)
  · -- yes
    cases h
  · -- no
    try simp only [decide_eq_false_iff_not] at h
    refine ACode.seq ?_
    refine ACode.of_AL [19] fun K1 hK => ?_
    refine AL.rule rfl rfl ?_
    simp -implicitDefEqProofs only [go_sem, ↓reduceIte, Nat.reduceEqDiff, Nat.reduceAdd, Nat.reduceSub, Nat.reduceMul, Nat.reduceLeDiff, reduceCtorEq, Bool.false_eq_true, Nat.reduceLT, aAppend]
    refine AL.rule rfl rfl ?_
    simp -implicitDefEqProofs only [go_sem, ↓reduceIte, Nat.reduceEqDiff, Nat.reduceAdd, Nat.reduceSub, Nat.reduceMul, Nat.reduceLeDiff, reduceCtorEq, Bool.false_eq_true, Nat.reduceLT, aAppend]
    refine AL.rule rfl rfl ?_
    simp -implicitDefEqProofs only [go_sem, ↓reduceIte, Nat.reduceEqDiff, Nat.reduceAdd, Nat.reduceSub, Nat.reduceMul, Nat.reduceLeDiff, reduceCtorEq, Bool.false_eq_true, Nat.reduceLT, aAppend]
    refine AL.rule rfl rfl ?_
    simp -implicitDefEqProofs only [go_sem, ↓reduceIte, Nat.reduceEqDiff, Nat.reduceAdd, Nat.reduceSub, Nat.reduceMul, Nat.reduceLeDiff, reduceCtorEq, Bool.false_eq_true, Nat.reduceLT, aAppend, hb]
    refine AL.rule rfl rfl ?_
    simp -implicitDefEqProofs only [go_sem, ↓reduceIte, Nat.reduceEqDiff, Nat.reduceAdd, Nat.reduceSub, Nat.reduceMul, Nat.reduceLeDiff, reduceCtorEq, Bool.false_eq_true, Nat.reduceLT, aAppend]
    refine AL.step rfl rfl fun I w a hR hG => ⟨(do eqGuard .neq 91 (.tmp 17) (.tmp 18) (a.eval (.tmp 17)) (a.eval (.tmp 18)); binOp .neq 91 (a.eval (.tmp 17)) (a.eval (.tmp 18))), by simp only [execOp], ?_⟩
    have h17 := hG.eval (.tmp 17)
    have h18 := hG.eval (.tmp 18)
    simp only [Env.eval, Env.get, ↓reduceIte, Nat.reduceEqDiff, RepT, RepV, Rep, List.cons.injEq, and_true] at h17 h18
    rw [h17, h18]
    have hq1 : eqGuard .neq 91 (.tmp 17) (.tmp 18) (.pointer (some ⟨b, 0, none⟩)) (.pointer (some ⟨b, 0, none⟩)) = pure () := rfl
    refine .same (x := boo false) (y := .bool false) (by rw [hq1]; simp only [Sem.run_bind, Sem.run_pure, Result.andThen_ok]; exact Lib.run_neq_ptr_same w ⟨b, 0, none⟩ und91 hj) (by simp [RepT, RepV, boo]) ?_ hR
    clear hR hG h17 h18 a w I
    simp -implicitDefEqProofs only [go_sem, ↓reduceIte, Nat.reduceEqDiff, Nat.reduceAdd, Nat.reduceSub, Nat.reduceMul, Nat.reduceLeDiff, reduceCtorEq, Bool.false_eq_true, Nat.reduceLT, aAppend]
    refine AL.run rfl ?_
    simp -implicitDefEqProofs only [go_sem, ↓reduceIte, Nat.reduceEqDiff, Nat.reduceAdd, Nat.reduceSub, Nat.reduceMul, Nat.reduceLeDiff, reduceCtorEq, Bool.false_eq_true, Nat.reduceLT, aAppend]
    refine hK _ _ ?_ _ (by simp -implicitDefEqProofs only [go_sem, ↓reduceIte, Nat.reduceEqDiff, Nat.reduceAdd, Nat.reduceSub, Nat.reduceMul, Nat.reduceLeDiff, reduceCtorEq, Bool.false_eq_true, Nat.reduceLT]; rfl); clear hK K1
    refine ACode.cond rfl (fun h => ?_) (fun h => ?_)
    · -- yes
      cases h
    · -- no
      try simp only [decide_eq_false_iff_not] at h
      refine ACode.skip ?_
      exact hk


/-- (*strings.Builder).WriteString -/
theorem c44 (H0 : Heap) (b : Nat) (l s : List UInt8) (hn : l.length + s.length ≤ 140737488355328) (H : Heap) (hB : BldSt 94 5 H0 b l H) (K : AV → Heap → Prop) (hk : ∀ H', BldSt 94 5 H0 b (l ++ s) H' → K (.tup [int s.length, .v .nilIface]) H') : ACalls Try.prog 44 [.bp b 0 [], str s] H K := by
  refine ACalls.of_code Try.func44 rfl (by kernel_rfl) rfl (by simp [Try.ntmps44]) ?_
  rw [Try.ntmps44, Try.results44]; simp -implicitDefEqProofs only [go_sem, ↓reduceIte, Nat.reduceEqDiff, Nat.reduceAdd, Nat.reduceSub, Nat.reduceMul, Nat.reduceLeDiff, reduceCtorEq, Bool.false_eq_true, Nat.reduceLT, aAppend]
  refine ACode.seq ?_
  refine ACode.region [0, 1] rfl fun K1 hK => ?_
  simp -implicitDefEqProofs only [go_sem, ↓reduceIte, Nat.reduceEqDiff, Nat.reduceAdd, Nat.reduceSub, Nat.reduceMul, Nat.reduceLeDiff, reduceCtorEq, Bool.false_eq_true, Nat.reduceLT, aAppend]
  refine hK _ _ ?_ _ (by simp -implicitDefEqProofs only [go_sem, ↓reduceIte, Nat.reduceEqDiff, Nat.reduceAdd, Nat.reduceSub, Nat.reduceMul, Nat.reduceLeDiff, reduceCtorEq, Bool.false_eq_true, Nat.reduceLT]; rfl); clear hK K1
  refine ACode.seq ?_
  refine ACode.region_cut [0, 1] (fun ρ' H' => BldUsed 94 5 H0 b l H' ∧ ρ' = [(0, .bp b 0 []), (1, str s)]) rfl (fun K1 hK => ?_) ?_
  · simp -implicitDefEqProofs only [go_sem, ↓reduceIte, Nat.reduceEqDiff, Nat.reduceAdd, Nat.reduceSub, Nat.reduceMul, Nat.reduceLeDiff, reduceCtorEq, Bool.false_eq_true, Nat.reduceLT, aAppend]
    obtain ⟨h1, h2, ⟨h3, p, rfl | rfl, h5⟩ | ⟨g, h3, h4, h5, h6, h7⟩⟩ := hB
    · refine c49f b (.v (.slice none 0 0)) rfl H h5 _ ?_
      simp -implicitDefEqProofs only [go_sem, ↓reduceIte, Nat.reduceEqDiff, Nat.reduceAdd, Nat.reduceSub, Nat.reduceMul, Nat.reduceLeDiff, reduceCtorEq, Bool.false_eq_true, Nat.reduceLT, aAppend]
      refine hK _ _ ⟨⟨fun c r hc => ?_, h2, .inl ⟨h3, Heap.upd_same _ _ _⟩⟩, rfl⟩ _ (by simp -implicitDefEqProofs only [go_sem, ↓reduceIte, Nat.reduceEqDiff, Nat.reduceAdd, Nat.reduceSub, Nat.reduceMul, Nat.reduceLeDiff, reduceCtorEq, Bool.false_eq_true, Nat.reduceLT, aAppend] <;> rfl)
      rw [Heap.upd_other _ _ (fun e => by subst e; rw [h2] at hc; cases hc)]; exact h1 c r hc
    · refine c49u b (.v (.slice none 0 0)) rfl H h5 _ ?_
      simp -implicitDefEqProofs only [go_sem, ↓reduceIte, Nat.reduceEqDiff, Nat.reduceAdd, Nat.reduceSub, Nat.reduceMul, Nat.reduceLeDiff, reduceCtorEq, Bool.false_eq_true, Nat.reduceLT, aAppend]
      exact hK _ _ ⟨⟨h1, h2, .inl ⟨h3, h5⟩⟩, rfl⟩ _ (by simp -implicitDefEqProofs only [go_sem, ↓reduceIte, Nat.reduceEqDiff, Nat.reduceAdd, Nat.reduceSub, Nat.reduceMul, Nat.reduceLeDiff, reduceCtorEq, Bool.false_eq_true, Nat.reduceLT, aAppend] <;> rfl)
    · refine c49u b (.slr g 1 0 l.length) rfl H h6 _ ?_
      simp -implicitDefEqProofs only [go_sem, ↓reduceIte, Nat.reduceEqDiff, Nat.reduceAdd, Nat.reduceSub, Nat.reduceMul, Nat.reduceLeDiff, reduceCtorEq, Bool.false_eq_true, Nat.reduceLT, aAppend]
      exact hK _ _ ⟨⟨h1, h2, .inr ⟨g, h3, h4, h5, h6, h7⟩⟩, rfl⟩ _ (by simp -implicitDefEqProofs only [go_sem, ↓reduceIte, Nat.reduceEqDiff, Nat.reduceAdd, Nat.reduceSub, Nat.reduceMul, Nat.reduceLeDiff, reduceCtorEq, Bool.false_eq_true, Nat.reduceLT, aAppend] <;> rfl)
  rintro ρ' H1 ⟨hU, rfl⟩
  refine ACode.seq ?_
  refine ACode.AL_cut [1] (fun ρ' H' => BldSt 94 5 H0 b (l ++ s) H' ∧ ρ' = [(1, str s)]) (fun K1 hK => ?_) ?_
  · obtain ⟨h1, h2, ⟨rfl, h4⟩ | ⟨g, h3, h4, h5, h6, h7⟩⟩ := hU
    · refine AL.rule rfl rfl ?_
      simp -implicitDefEqProofs only [go_sem, ↓reduceIte, Nat.reduceEqDiff, Nat.reduceAdd, Nat.reduceSub, Nat.reduceMul, Nat.reduceLeDiff, reduceCtorEq, Bool.false_eq_true, Nat.reduceLT, aAppend]
      refine AL.rule rfl rfl ?_
      simp -implicitDefEqProofs only [go_sem, ↓reduceIte, Nat.reduceEqDiff, Nat.reduceAdd, Nat.reduceSub, Nat.reduceMul, Nat.reduceLeDiff, reduceCtorEq, Bool.false_eq_true, Nat.reduceLT, aAppend]
      refine AL.rule rfl rfl ?_
      simp -implicitDefEqProofs only [go_sem, ↓reduceIte, Nat.reduceEqDiff, Nat.reduceAdd, Nat.reduceSub, Nat.reduceMul, Nat.reduceLeDiff, reduceCtorEq, Bool.false_eq_true, Nat.reduceLT, aAppend]
      refine AL.rule rfl rfl ?_
      simp -implicitDefEqProofs only [go_sem, ↓reduceIte, Nat.reduceEqDiff, Nat.reduceAdd, Nat.reduceSub, Nat.reduceMul, Nat.reduceLeDiff, reduceCtorEq, Bool.false_eq_true, Nat.reduceLT, aAppend]
      refine AL.rule rfl rfl ?_
      simp -implicitDefEqProofs only [go_sem, ↓reduceIte, Nat.reduceEqDiff, Nat.reduceAdd, Nat.reduceSub, Nat.reduceMul, Nat.reduceLeDiff, reduceCtorEq, Bool.false_eq_true, Nat.reduceLT, aAppend, h4]
      refine AL.rule rfl rfl ?_
      simp -implicitDefEqProofs only [go_sem, ↓reduceIte, Nat.reduceEqDiff, Nat.reduceAdd, Nat.reduceSub, Nat.reduceMul, Nat.reduceLeDiff, reduceCtorEq, Bool.false_eq_true, Nat.reduceLT, aAppend]
      refine AL.step rfl rfl fun I w a hR hG => ⟨Builtin.append_ #[92, 9] 92 #[a.eval (.tmp 12), a.eval (.tmp 13)], by simp [execOp, resolve, invoke, builtin], ?_⟩
      have h12 := hG.eval (.tmp 12)
      have h13 := hG.eval (.tmp 13)
      simp only [Env.eval, Env.get, ↓reduceIte, Nat.reduceEqDiff] at h12 h13
      refine aAppT_ok ?_ h12 h13 hR
      clear hR hG h12 h13 a w I
      unfold aAppT
      simp only [el92, srcOf_str, ze5, byteAVs_length]
      refine ⟨ni9, by omega, by omega, byteAVs_sizes _, fun h0 => ?_, fun h0 => ⟨by simp at hn; omega, fun g hg => ?_⟩⟩
      · have hs : s = [] := byteAVs_nil.1 h0
        refine AL.run rfl ?_
        simp -implicitDefEqProofs only [go_sem, ↓reduceIte, Nat.reduceEqDiff, Nat.reduceAdd, Nat.reduceSub, Nat.reduceMul, Nat.reduceLeDiff, reduceCtorEq, Bool.false_eq_true, Nat.reduceLT, aAppend, h4]
        refine hK _ _ ⟨?_, rfl⟩ _ (by simp -implicitDefEqProofs only [go_sem, ↓reduceIte, Nat.reduceEqDiff, Nat.reduceAdd, Nat.reduceSub, Nat.reduceMul, Nat.reduceLeDiff, reduceCtorEq, Bool.false_eq_true, Nat.reduceLT, aAppend] <;> rfl)
        subst hs
        exact ⟨fun c r hc => by rw [Heap.upd_other _ _ (fun e => by subst e; rw [h2] at hc; cases hc)]; exact h1 c r hc, h2, .inl ⟨rfl, _, .inr rfl, Heap.upd_same _ _ _⟩⟩
      · have hs : s ≠ [] := fun e => h0 (byteAVs_nil.2 e)
        have hgb : g ≠ b := fun e => by subst e; rw [h4] at hg; cases hg
        have hg0 : H0 g = none := by
          cases h' : H0 g with
          | none => rfl
          | some r => rw [h1 g r h'] at hg; cases hg
        have h4' : (H1.upd g (.ty 5 (.arr 1 (byteAVs s)))) b = some (.ty 94 (.box (.agg [.bp b 0 [], .v (.slice none 0 0)]))) := by rw [Heap.upd_other _ _ (Ne.symm hgb)]; exact h4
        refine AL.run rfl ?_
        simp -implicitDefEqProofs only [go_sem, ↓reduceIte, Nat.reduceEqDiff, Nat.reduceAdd, Nat.reduceSub, Nat.reduceMul, Nat.reduceLeDiff, reduceCtorEq, Bool.false_eq_true, Nat.reduceLT, aAppend, h4']
        refine hK _ _ ⟨?_, rfl⟩ _ (by simp -implicitDefEqProofs only [go_sem, ↓reduceIte, Nat.reduceEqDiff, Nat.reduceAdd, Nat.reduceSub, Nat.reduceMul, Nat.reduceLeDiff, reduceCtorEq, Bool.false_eq_true, Nat.reduceLT, aAppend] <;> rfl)
        exact BldUsed.put (l := s) hs (fun c r hc => Heap.le_upd hg c r (h1 c r hc)) h2 hg0 hgb (Heap.upd_same _ _ _)
    · refine AL.rule rfl rfl ?_
      simp -implicitDefEqProofs only [go_sem, ↓reduceIte, Nat.reduceEqDiff, Nat.reduceAdd, Nat.reduceSub, Nat.reduceMul, Nat.reduceLeDiff, reduceCtorEq, Bool.false_eq_true, Nat.reduceLT, aAppend]
      refine AL.rule rfl rfl ?_
      simp -implicitDefEqProofs only [go_sem, ↓reduceIte, Nat.reduceEqDiff, Nat.reduceAdd, Nat.reduceSub, Nat.reduceMul, Nat.reduceLeDiff, reduceCtorEq, Bool.false_eq_true, Nat.reduceLT, aAppend]
      refine AL.rule rfl rfl ?_
      simp -implicitDefEqProofs only [go_sem, ↓reduceIte, Nat.reduceEqDiff, Nat.reduceAdd, Nat.reduceSub, Nat.reduceMul, Nat.reduceLeDiff, reduceCtorEq, Bool.false_eq_true, Nat.reduceLT, aAppend]
      refine AL.rule rfl rfl ?_
      simp -implicitDefEqProofs only [go_sem, ↓reduceIte, Nat.reduceEqDiff, Nat.reduceAdd, Nat.reduceSub, Nat.reduceMul, Nat.reduceLeDiff, reduceCtorEq, Bool.false_eq_true, Nat.reduceLT, aAppend]
      refine AL.rule rfl rfl ?_
      simp -implicitDefEqProofs only [go_sem, ↓reduceIte, Nat.reduceEqDiff, Nat.reduceAdd, Nat.reduceSub, Nat.reduceMul, Nat.reduceLeDiff, reduceCtorEq, Bool.false_eq_true, Nat.reduceLT, aAppend, h6]
      refine AL.rule rfl rfl ?_
      simp -implicitDefEqProofs only [go_sem, ↓reduceIte, Nat.reduceEqDiff, Nat.reduceAdd, Nat.reduceSub, Nat.reduceMul, Nat.reduceLeDiff, reduceCtorEq, Bool.false_eq_true, Nat.reduceLT, aAppend]
      refine AL.step rfl rfl fun I w a hR hG => ⟨Builtin.append_ #[92, 9] 92 #[a.eval (.tmp 12), a.eval (.tmp 13)], by simp [execOp, resolve, invoke, builtin], ?_⟩
      have h12 := hG.eval (.tmp 12)
      have h13 := hG.eval (.tmp 13)
      simp only [Env.eval, Env.get, ↓reduceIte, Nat.reduceEqDiff] at h12 h13
      refine aAppT_ok ?_ h12 h13 hR
      clear hR hG h12 h13 a w I
      unfold aAppT
      simp only [el92, srcOf_str, ze5, byteAVs_length, h7, true_and]
      refine ⟨ni9, by omega, by omega, byteAVs_sizes _, by omega, fun g' hg' => ?_⟩
      have hgb' : g' ≠ b := fun e => by
        subst e
        rcases hg' with e | hg'
        · exact h5 e.symm
        · rw [h6] at hg'; cases hg'
      have hg0 : H0 g' = none := by
        rcases hg' with e | hg'
        · rw [e]; exact h4
        · cases h' : H0 g' with
          | none => rfl
          | some r => rw [h1 g' r h'] at hg'; cases hg'
      have h6' : ((H1.erase g).upd g' (.ty 5 (.arr 1 (byteAVs l ++ byteAVs s)))) b = some (.ty 94 (.box (.agg [.bp b 0 [], .slr g 1 0 l.length]))) := by rw [Heap.upd_other _ _ (Ne.symm hgb'), Heap.erase_other _ (Ne.symm h5)]; exact h6
      refine AL.run rfl ?_
      simp -implicitDefEqProofs only [go_sem, ↓reduceIte, Nat.reduceEqDiff, Nat.reduceAdd, Nat.reduceSub, Nat.reduceMul, Nat.reduceLeDiff, reduceCtorEq, Bool.false_eq_true, Nat.reduceLT, aAppend, h6']
      refine hK _ _ ⟨?_, rfl⟩ _ (by simp -implicitDefEqProofs only [go_sem, ↓reduceIte, Nat.reduceEqDiff, Nat.reduceAdd, Nat.reduceSub, Nat.reduceMul, Nat.reduceLeDiff, reduceCtorEq, Bool.false_eq_true, Nat.reduceLT, aAppend] <;> rfl)
      have := BldUsed.put (TB := 94) (e := 5) (l := l ++ s) (H0 := H0) (H2 := (H1.erase g).upd g' (.ty 5 (.arr 1 (byteAVs l ++ byteAVs s)))) (b := b) (g := g') (by simp [h3]) (fun c r hc => ?_) h2 hg0 hgb' (by rw [byteAVs_append]; exact Heap.upd_same _ _ _)
      · simpa using this
      · have n1 : c ≠ g' := fun e => by subst e; rw [hg0] at hc; cases hc
        have n2 : c ≠ g := fun e => by subst e; rw [h4] at hc; cases hc
        rw [Heap.upd_other _ _ n1, Heap.erase_other _ n2]; exact h1 c r hc
  rintro ρ' H2 ⟨hH', rfl⟩
  refine ACode.seq ?_
  refine ACode.region [4, 5] rfl fun K1 hK => ?_
  simp -implicitDefEqProofs only [go_sem, ↓reduceIte, Nat.reduceEqDiff, Nat.reduceAdd, Nat.reduceSub, Nat.reduceMul, Nat.reduceLeDiff, reduceCtorEq, Bool.false_eq_true, Nat.reduceLT, aAppend]
  refine hK _ _ ?_ _ (by simp -implicitDefEqProofs only [go_sem, ↓reduceIte, Nat.reduceEqDiff, Nat.reduceAdd, Nat.reduceSub, Nat.reduceMul, Nat.reduceLeDiff, reduceCtorEq, Bool.false_eq_true, Nat.reduceLT]; rfl); clear hK K1
  refine ACode.ret ?_
  exact hk _ hH'


theorem pt103 : ptrT Try.prog 103 = some 5 := by kernel_rfl
theorem cl5 : Try.prog.cellsOf 5 = 1 := by kernel_rfl

/-- (*strings.Builder).String: what was written; the Builder is no longer asked for -/
theorem c45 (H0 : Heap) (b : Nat) (l : List UInt8) (hn : l.length ≤ 140737488355328) (H : Heap) (hB : BldSt 94 5 H0 b l H) (K : AV → Heap → Prop) (hk : K (str l) H0) : ACalls Try.prog 45 [.bp b 0 []] H K := by
  refine ACalls.of_code Try.func45 rfl (by kernel_rfl) rfl (by simp [Try.ntmps45]) ?_
  rw [Try.ntmps45, Try.results45]; simp -implicitDefEqProofs only [go_sem, ↓reduceIte, Nat.reduceEqDiff, Nat.reduceAdd, Nat.reduceSub, Nat.reduceMul, Nat.reduceLeDiff, reduceCtorEq, Bool.false_eq_true, Nat.reduceLT, aAppend]
  refine ACode.seq ?_
  refine ACode.region [0] rfl fun K1 hK => ?_
  simp -implicitDefEqProofs only [go_sem, ↓reduceIte, Nat.reduceEqDiff, Nat.reduceAdd, Nat.reduceSub, Nat.reduceMul, Nat.reduceLeDiff, reduceCtorEq, Bool.false_eq_true, Nat.reduceLT, aAppend]
  refine hK _ _ ?_ _ (by simp -implicitDefEqProofs only [go_sem, ↓reduceIte, Nat.reduceEqDiff, Nat.reduceAdd, Nat.reduceSub, Nat.reduceMul, Nat.reduceLeDiff, reduceCtorEq, Bool.false_eq_true, Nat.reduceLT]; rfl); clear hK K1
  refine ACode.seq ?_
  obtain ⟨h1, h2, h3⟩ := hB
  refine ACode.draw_cut [2] [(0, 0), (1, 0), (2, 0), (5, 0), (6, 0), (7, 0), (3, 1), (8, 1), (4, 0), (9, 0), (10, 2), (11, 0)] (fun ρ' H' => Heap.le H0 H' ∧ ρ' = [(2, str l)]) (by kernel_rfl) (by kernel_rfl) rfl (by kernel_rfl) (fun K1 hK => ?_) ?_
  · obtain ⟨rfl, p, hp, h5⟩ | ⟨g, h3, h4, h5, h6, h7⟩ := h3
    · have hps : p.size = 1 := by rcases hp with rfl | rfl <;> rfl
      simp -implicitDefEqProofs only [go_sem, ↓reduceIte, Nat.reduceEqDiff, Nat.reduceAdd, Nat.reduceSub, Nat.reduceMul, Nat.reduceLeDiff, reduceCtorEq, Bool.false_eq_true, Nat.reduceLT, aAppend, h5, hps]
      unfold aUnsafeString
      simp -implicitDefEqProofs only [go_sem, ↓reduceIte, Nat.reduceEqDiff, Nat.reduceAdd, Nat.reduceSub, Nat.reduceMul, Nat.reduceLeDiff, reduceCtorEq, Bool.false_eq_true, Nat.reduceLT, aAppend]
      exact hK _ _ ⟨h1, rfl⟩ _ (by simp -implicitDefEqProofs only [go_sem, ↓reduceIte, Nat.reduceEqDiff, Nat.reduceAdd, Nat.reduceSub, Nat.reduceMul, Nat.reduceLeDiff, reduceCtorEq, Bool.false_eq_true, Nat.reduceLT, aAppend] <;> rfl)
    · simp -implicitDefEqProofs only [go_sem, ↓reduceIte, Nat.reduceEqDiff, Nat.reduceAdd, Nat.reduceSub, Nat.reduceMul, Nat.reduceLeDiff, reduceCtorEq, Bool.false_eq_true, Nat.reduceLT, aAppend, h6]
      have h0 : 0 < l.length := List.length_pos_iff.2 h3
      refine ⟨h0, ?_⟩
      unfold aUnsafeString
      simp only [h7]
      refine ⟨pt103, cl5, l, h3, rfl, rfl, by omega, ?_⟩
      simp -implicitDefEqProofs only [go_sem, ↓reduceIte, Nat.reduceEqDiff, Nat.reduceAdd, Nat.reduceSub, Nat.reduceMul, Nat.reduceLeDiff, reduceCtorEq, Bool.false_eq_true, Nat.reduceLT, aAppend]
      refine hK _ _ ⟨fun c r hc => ?_, rfl⟩ _ (by simp -implicitDefEqProofs only [go_sem, ↓reduceIte, Nat.reduceEqDiff, Nat.reduceAdd, Nat.reduceSub, Nat.reduceMul, Nat.reduceLeDiff, reduceCtorEq, Bool.false_eq_true, Nat.reduceLT, aAppend] <;> rfl)
      rw [Heap.erase_other _ (fun e => by subst e; rw [h4] at hc; cases hc)]; exact h1 c r hc
  rintro ρ' H1 ⟨hle, rfl⟩
  refine ACode.drop (H' := H0) ?_ hle
  refine ACode.ret ?_
  exact hk


end Go.Flow

