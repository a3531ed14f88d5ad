/-
  Changes, steps: copies, notes. No condition.
-/
import Derived.Test.YtlcggoafbafldaaHistC
set_option linter.unusedVariables false
set_option linter.unusedSimpArgs false
set_option maxRecDepth 20000
namespace Go.Flow
open Go Go.Proofs

structure Change where
  Module : List UInt8
  Edits : List Edit

def eChange (c : Change) : AV := .agg [str c.Module, .sl (c.Edits.map eEdit)]

structure Step where
  note : List UInt8
  go : List Change
  undo : List Change

def eStep (s : Step) : AV := .agg [str s.note, .sl (s.go.map eChange), .sl (s.undo.map eChange)]

structure State where
  Note : List UInt8
  L : List Mod

def eState (s : State) : AV := .agg [str s.Note, .sl (s.L.map eMod)]

theorem sizes_map {α : Type} (e : α → AV) (s : Nat) (h : ∀ x, (e x).size = s) (l : List α) : sizesAre s (l.map e) := by
  intro x hx
  obtain ⟨y, -, rfl⟩ := List.mem_map.1 hx
  exact h y
theorem eMod_sizes (l : List Mod) : sizesAre 2 (l.map eMod) := sizes_map _ _ eMod_size l
theorem eEdit_sizes (l : List Edit) : sizesAre 3 (l.map eEdit) := sizes_map _ _ eEdit_size l
theorem eChange_size (c : Change) : (eChange c).size = 2 := by simp [eChange, AV.size, AV.sizes, str]
theorem eChange_sizes (l : List Change) : sizesAre 2 (l.map eChange) := sizes_map _ _ eChange_size l
theorem eStep_size (c : Step) : (eStep c).size = 3 := by simp [eStep, AV.size, AV.sizes, str]
theorem eStep_sizes (l : List Step) : sizesAre 3 (l.map eStep) := sizes_map _ _ eStep_size l
theorem eState_size (c : State) : (eState c).size = 2 := by simp [eState, AV.size, AV.sizes, str]
theorem eState_sizes (l : List State) : sizesAre 2 (l.map eState) := sizes_map _ _ eState_size l
theorem str_sizes (l : List (List UInt8)) : sizesAre 1 (l.map str) := sizes_map _ _ (fun x => by simp [AV.size, str]) l

/-- slices.Clone, of modules: new memory -/
theorem c30 (l : List Mod) (hl : l.length ≤ 1000000000000) (H : Heap) (K : AV → Heap → Prop) (hk : ∀ x H', AppSt H 2 (l.map eMod) x H' → K x H') : ACalls Try.prog 30 [.sl (l.map eMod)] H K := by
  refine ACalls.of_code Try.func30 rfl (by kernel_rfl) rfl (by simp [Try.ntmps30]) ?_
  rw [Try.ntmps30, Try.results30]; simp -implicitDefEqProofs only [go_sem, ↓reduceIte, Nat.reduceEqDiff, Nat.reduceAdd, Nat.reduceSub, Nat.reduceMul, Nat.reduceLeDiff, reduceCtorEq, Bool.false_eq_true, Nat.reduceLT, aAppend]
  refine ACode.seq ?_
  refine ACode.region [0] rfl fun K1 hK => ?_
  simp -implicitDefEqProofs only [go_sem, ↓reduceIte, Nat.reduceEqDiff, Nat.reduceAdd, Nat.reduceSub, Nat.reduceMul, Nat.reduceLeDiff, reduceCtorEq, Bool.false_eq_true, Nat.reduceLT, aAppend]
  refine hK _ _ ?_ _ (by simp -implicitDefEqProofs only [go_sem, ↓reduceIte, Nat.reduceEqDiff, Nat.reduceAdd, Nat.reduceSub, Nat.reduceMul, Nat.reduceLeDiff, reduceCtorEq, Bool.false_eq_true, Nat.reduceLT]; rfl); clear hK K1
  refine ACode.seq ?_
  refine ACode.seq ?_
  refine ACode.region [0, 4] rfl fun K1 hK => ?_
  simp -implicitDefEqProofs only [go_sem, ↓reduceIte, Nat.reduceEqDiff, Nat.reduceAdd, Nat.reduceSub, Nat.reduceMul, Nat.reduceLeDiff, reduceCtorEq, Bool.false_eq_true, Nat.reduceLT, aAppend]
  intro c hc
  refine hK _ _ ?_ _ (by simp -implicitDefEqProofs only [go_sem, ↓reduceIte, Nat.reduceEqDiff, Nat.reduceAdd, Nat.reduceSub, Nat.reduceMul, Nat.reduceLeDiff, reduceCtorEq, Bool.false_eq_true, Nat.reduceLT]; rfl); clear hK K1
  refine ACode.cond rfl (fun h => ?_) (fun h => ?_)
  · -- yes
    try simp only [decide_eq_true_eq] at h
    refine ACode.seq ?_
    refine ACode.region [2] rfl fun K1 hK => ?_
    simp -implicitDefEqProofs only [go_sem, ↓reduceIte, Nat.reduceEqDiff, Nat.reduceAdd, Nat.reduceSub, Nat.reduceMul, Nat.reduceLeDiff, reduceCtorEq, Bool.false_eq_true, Nat.reduceLT, aAppend]
    refine hK _ _ ?_ _ (by simp -implicitDefEqProofs only [go_sem, ↓reduceIte, Nat.reduceEqDiff, Nat.reduceAdd, Nat.reduceSub, Nat.reduceMul, Nat.reduceLeDiff, reduceCtorEq, Bool.false_eq_true, Nat.reduceLT]; rfl); clear hK K1
    refine ACode.ret ?_
    have e : l = [] := by simpa using hc h
    subst e
    exact hk _ _ AppSt.nil
  · -- no
    try simp only [decide_eq_false_iff_not] at h
    refine ACode.skip ?_
    refine ACode.seq ?_
    refine ACode.region [2] rfl fun K1 hK => ?_
    simp -implicitDefEqProofs only [go_sem, ↓reduceIte, Nat.reduceEqDiff, Nat.reduceAdd, Nat.reduceSub, Nat.reduceMul, Nat.reduceLeDiff, reduceCtorEq, Bool.false_eq_true, Nat.reduceLT]
    intro b hb
    refine AppSt.append (l := []) ⟨Heap.le_upd hb, .inr ⟨b, hb, Heap.upd_same _ _ _, rfl⟩⟩ el22 ze55 ni22 (by omega) (by omega) rfl (eMod_sizes l) (by simp; omega) fun x H2 hst => ?_
    simp -implicitDefEqProofs only [go_sem, ↓reduceIte, Nat.reduceEqDiff, Nat.reduceAdd, Nat.reduceSub, Nat.reduceMul, Nat.reduceLeDiff, reduceCtorEq, Bool.false_eq_true, Nat.reduceLT, aAppend]
    refine hK _ _ ?_ _ (by simp -implicitDefEqProofs only [go_sem, ↓reduceIte, Nat.reduceEqDiff, Nat.reduceAdd, Nat.reduceSub, Nat.reduceMul, Nat.reduceLeDiff, reduceCtorEq, Bool.false_eq_true, Nat.reduceLT]; rfl); clear hK K1
    refine ACode.ret ?_
    exact hk _ _ hst


/-- slices.Clone, of changes: new memory -/
theorem c38 (l : List Change) (hl : l.length ≤ 1000000000000) (H : Heap) (K : AV → Heap → Prop) (hk : ∀ x H', AppSt H 2 (l.map eChange) x H' → K x H') : ACalls Try.prog 38 [.sl (l.map eChange)] H K := by
  refine ACalls.of_code Try.func38 rfl (by kernel_rfl) rfl (by simp [Try.ntmps38]) ?_
  rw [Try.ntmps38, Try.results38]; simp -implicitDefEqProofs only [go_sem, ↓reduceIte, Nat.reduceEqDiff, Nat.reduceAdd, Nat.reduceSub, Nat.reduceMul, Nat.reduceLeDiff, reduceCtorEq, Bool.false_eq_true, Nat.reduceLT, aAppend]
  refine ACode.seq ?_
  refine ACode.region [0] rfl fun K1 hK => ?_
  simp -implicitDefEqProofs only [go_sem, ↓reduceIte, Nat.reduceEqDiff, Nat.reduceAdd, Nat.reduceSub, Nat.reduceMul, Nat.reduceLeDiff, reduceCtorEq, Bool.false_eq_true, Nat.reduceLT, aAppend]
  refine hK _ _ ?_ _ (by simp -implicitDefEqProofs only [go_sem, ↓reduceIte, Nat.reduceEqDiff, Nat.reduceAdd, Nat.reduceSub, Nat.reduceMul, Nat.reduceLeDiff, reduceCtorEq, Bool.false_eq_true, Nat.reduceLT]; rfl); clear hK K1
  refine ACode.seq ?_
  refine ACode.seq ?_
  refine ACode.region [0, 4] rfl fun K1 hK => ?_
  simp -implicitDefEqProofs only [go_sem, ↓reduceIte, Nat.reduceEqDiff, Nat.reduceAdd, Nat.reduceSub, Nat.reduceMul, Nat.reduceLeDiff, reduceCtorEq, Bool.false_eq_true, Nat.reduceLT, aAppend]
  intro c hc
  refine hK _ _ ?_ _ (by simp -implicitDefEqProofs only [go_sem, ↓reduceIte, Nat.reduceEqDiff, Nat.reduceAdd, Nat.reduceSub, Nat.reduceMul, Nat.reduceLeDiff, reduceCtorEq, Bool.false_eq_true, Nat.reduceLT]; rfl); clear hK K1
  refine ACode.cond rfl (fun h => ?_) (fun h => ?_)
  · -- yes
    try simp only [decide_eq_true_eq] at h
    refine ACode.seq ?_
    refine ACode.region [2] rfl fun K1 hK => ?_
    simp -implicitDefEqProofs only [go_sem, ↓reduceIte, Nat.reduceEqDiff, Nat.reduceAdd, Nat.reduceSub, Nat.reduceMul, Nat.reduceLeDiff, reduceCtorEq, Bool.false_eq_true, Nat.reduceLT, aAppend]
    refine hK _ _ ?_ _ (by simp -implicitDefEqProofs only [go_sem, ↓reduceIte, Nat.reduceEqDiff, Nat.reduceAdd, Nat.reduceSub, Nat.reduceMul, Nat.reduceLeDiff, reduceCtorEq, Bool.false_eq_true, Nat.reduceLT]; rfl); clear hK K1
    refine ACode.ret ?_
    have e : l = [] := by simpa using hc h
    subst e
    exact hk _ _ AppSt.nil
  · -- no
    try simp only [decide_eq_false_iff_not] at h
    refine ACode.skip ?_
    refine ACode.seq ?_
    refine ACode.region [2] rfl fun K1 hK => ?_
    simp -implicitDefEqProofs only [go_sem, ↓reduceIte, Nat.reduceEqDiff, Nat.reduceAdd, Nat.reduceSub, Nat.reduceMul, Nat.reduceLeDiff, reduceCtorEq, Bool.false_eq_true, Nat.reduceLT]
    intro b hb
    refine AppSt.append (l := []) ⟨Heap.le_upd hb, .inr ⟨b, hb, Heap.upd_same _ _ _, rfl⟩⟩ el33 ze60 ni33 (by omega) (by omega) rfl (eChange_sizes l) (by simp; omega) fun x H2 hst => ?_
    simp -implicitDefEqProofs only [go_sem, ↓reduceIte, Nat.reduceEqDiff, Nat.reduceAdd, Nat.reduceSub, Nat.reduceMul, Nat.reduceLeDiff, reduceCtorEq, Bool.false_eq_true, Nat.reduceLT, aAppend]
    refine hK _ _ ?_ _ (by simp -implicitDefEqProofs only [go_sem, ↓reduceIte, Nat.reduceEqDiff, Nat.reduceAdd, Nat.reduceSub, Nat.reduceMul, Nat.reduceLeDiff, reduceCtorEq, Bool.false_eq_true, Nat.reduceLT]; rfl); clear hK K1
    refine ACode.ret ?_
    exact hk _ _ hst


/-- slices.Clone, of edits: new memory -/
theorem c39 (l : List Edit) (hl : l.length ≤ 1000000000000) (H : Heap) (K : AV → Heap → Prop) (hk : ∀ x H', AppSt H 3 (l.map eEdit) x H' → K x H') : ACalls Try.prog 39 [.sl (l.map eEdit)] H K := by
  refine ACalls.of_code Try.func39 rfl (by kernel_rfl) rfl (by simp [Try.ntmps39]) ?_
  rw [Try.ntmps39, Try.results39]; simp -implicitDefEqProofs only [go_sem, ↓reduceIte, Nat.reduceEqDiff, Nat.reduceAdd, Nat.reduceSub, Nat.reduceMul, Nat.reduceLeDiff, reduceCtorEq, Bool.false_eq_true, Nat.reduceLT, aAppend]
  refine ACode.seq ?_
  refine ACode.region [0] rfl fun K1 hK => ?_
  simp -implicitDefEqProofs only [go_sem, ↓reduceIte, Nat.reduceEqDiff, Nat.reduceAdd, Nat.reduceSub, Nat.reduceMul, Nat.reduceLeDiff, reduceCtorEq, Bool.false_eq_true, Nat.reduceLT, aAppend]
  refine hK _ _ ?_ _ (by simp -implicitDefEqProofs only [go_sem, ↓reduceIte, Nat.reduceEqDiff, Nat.reduceAdd, Nat.reduceSub, Nat.reduceMul, Nat.reduceLeDiff, reduceCtorEq, Bool.false_eq_true, Nat.reduceLT]; rfl); clear hK K1
  refine ACode.seq ?_
  refine ACode.seq ?_
  refine ACode.region [0, 4] rfl fun K1 hK => ?_
  simp -implicitDefEqProofs only [go_sem, ↓reduceIte, Nat.reduceEqDiff, Nat.reduceAdd, Nat.reduceSub, Nat.reduceMul, Nat.reduceLeDiff, reduceCtorEq, Bool.false_eq_true, Nat.reduceLT, aAppend]
  intro c hc
  refine hK _ _ ?_ _ (by simp -implicitDefEqProofs only [go_sem, ↓reduceIte, Nat.reduceEqDiff, Nat.reduceAdd, Nat.reduceSub, Nat.reduceMul, Nat.reduceLeDiff, reduceCtorEq, Bool.false_eq_true, Nat.reduceLT]; rfl); clear hK K1
  refine ACode.cond rfl (fun h => ?_) (fun h => ?_)
  · -- yes
    try simp only [decide_eq_true_eq] at h
    refine ACode.seq ?_
    refine ACode.region [2] rfl fun K1 hK => ?_
    simp -implicitDefEqProofs only [go_sem, ↓reduceIte, Nat.reduceEqDiff, Nat.reduceAdd, Nat.reduceSub, Nat.reduceMul, Nat.reduceLeDiff, reduceCtorEq, Bool.false_eq_true, Nat.reduceLT, aAppend]
    refine hK _ _ ?_ _ (by simp -implicitDefEqProofs only [go_sem, ↓reduceIte, Nat.reduceEqDiff, Nat.reduceAdd, Nat.reduceSub, Nat.reduceMul, Nat.reduceLeDiff, reduceCtorEq, Bool.false_eq_true, Nat.reduceLT]; rfl); clear hK K1
    refine ACode.ret ?_
    have e : l = [] := by simpa using hc h
    subst e
    exact hk _ _ AppSt.nil
  · -- no
    try simp only [decide_eq_false_iff_not] at h
    refine ACode.skip ?_
    refine ACode.seq ?_
    refine ACode.region [2] rfl fun K1 hK => ?_
    simp -implicitDefEqProofs only [go_sem, ↓reduceIte, Nat.reduceEqDiff, Nat.reduceAdd, Nat.reduceSub, Nat.reduceMul, Nat.reduceLeDiff, reduceCtorEq, Bool.false_eq_true, Nat.reduceLT]
    intro b hb
    refine AppSt.append (l := []) ⟨Heap.le_upd hb, .inr ⟨b, hb, Heap.upd_same _ _ _, rfl⟩⟩ el58 ze57 ni58 (by omega) (by omega) rfl (eEdit_sizes l) (by simp; omega) fun x H2 hst => ?_
    simp -implicitDefEqProofs only [go_sem, ↓reduceIte, Nat.reduceEqDiff, Nat.reduceAdd, Nat.reduceSub, Nat.reduceMul, Nat.reduceLeDiff, reduceCtorEq, Bool.false_eq_true, Nat.reduceLT, aAppend]
    refine hK _ _ ?_ _ (by simp -implicitDefEqProofs only [go_sem, ↓reduceIte, Nat.reduceEqDiff, Nat.reduceAdd, Nat.reduceSub, Nat.reduceMul, Nat.reduceLeDiff, reduceCtorEq, Bool.false_eq_true, Nat.reduceLT]; rfl); clear hK K1
    refine ACode.ret ?_
    exact hk _ _ hst


theorem c30s (l : List Mod) (hl : l.length ≤ 1000000000000) (H : Heap) (K : AV → Heap → Prop) (hk : K (.sl (l.map eMod)) H) : ACalls Try.prog 30 [.sl (l.map eMod)] H K := (c30 l hl H _ fun _ _ h => h).done hk
theorem c39s (l : List Edit) (hl : l.length ≤ 1000000000000) (H : Heap) (K : AV → Heap → Prop) (hk : K (.sl (l.map eEdit)) H) : ACalls Try.prog 39 [.sl (l.map eEdit)] H K := (c39 l hl H _ fun _ _ h => h).done hk

/-- whetstone/history.notes: of a row of our own -/
theorem c29 (b i j : Nat) (row : List Step) (hij : i ≤ j) (hj : j ≤ row.length) (hr : row.length ≤ 1000000000000) (H : Heap) (hb : H b = some (.arr 3 (row.map eStep)))
    (K : AV → Heap → Prop) (hk : K (.sl ((((row.take j).drop i).map (·.note)).map str)) H) : ACalls Try.prog 29 [.slr b 3 i j] H K := by
  generalize hl : (row.take j).drop i = l at hk
  have hll : l.length = j - i := by rw [← hl]; simp; omega
  have hat : ∀ k x, l[k]? = some x → row[i + k]? = some x := fun k x hx => by
    rw [← hl, List.getElem?_drop, List.getElem?_take] at hx
    split at hx
    · exact hx
    · cases hx
  have hcap : ((j - i : Nat) : Int) = l.length := by omega
  refine ACalls.of_code Try.func29 rfl (by kernel_rfl) rfl (by simp [Try.ntmps29]) ?_
  rw [Try.ntmps29, Try.results29]; simp -implicitDefEqProofs only [go_sem, ↓reduceIte, Nat.reduceEqDiff, Nat.reduceAdd, Nat.reduceSub, Nat.reduceMul, Nat.reduceLeDiff, reduceCtorEq, Bool.false_eq_true, Nat.reduceLT, aAppend]
  refine ACode.seq ?_
  refine ACode.region [0] rfl fun K1 hK => ?_
  simp -implicitDefEqProofs only [go_sem, ↓reduceIte, Nat.reduceEqDiff, Nat.reduceAdd, Nat.reduceSub, Nat.reduceMul, Nat.reduceLeDiff, reduceCtorEq, Bool.false_eq_true, Nat.reduceLT, aAppend]
  refine hK _ _ ?_ _ (by simp -implicitDefEqProofs only [go_sem, ↓reduceIte, Nat.reduceEqDiff, Nat.reduceAdd, Nat.reduceSub, Nat.reduceMul, Nat.reduceLeDiff, reduceCtorEq, Bool.false_eq_true, Nat.reduceLT]; rfl); clear hK K1
  refine ACode.seq ?_
  refine ACode.region [0, 3] rfl fun K1 hK => ?_
  simp -implicitDefEqProofs only [go_sem, ↓reduceIte, Nat.reduceEqDiff, Nat.reduceAdd, Nat.reduceSub, Nat.reduceMul, Nat.reduceLeDiff, reduceCtorEq, Bool.false_eq_true, Nat.reduceLT, aAppend]
  refine hK _ _ ?_ _ (by simp -implicitDefEqProofs only [go_sem, ↓reduceIte, Nat.reduceEqDiff, Nat.reduceAdd, Nat.reduceSub, Nat.reduceMul, Nat.reduceLeDiff, reduceCtorEq, Bool.false_eq_true, Nat.reduceLT]; rfl); clear hK K1
  refine ACode.seq ?_
  refine ACode.seq ?_
  refine ACode.region [3, 6, 7, 8] rfl fun K1 hK => ?_
  simp -implicitDefEqProofs only [go_sem, ↓reduceIte, Nat.reduceEqDiff, Nat.reduceAdd, Nat.reduceSub, Nat.reduceMul, Nat.reduceLeDiff, reduceCtorEq, Bool.false_eq_true, Nat.reduceLT, aAppend]
  refine hK _ _ ?_ _ (by simp -implicitDefEqProofs only [go_sem, ↓reduceIte, Nat.reduceEqDiff, Nat.reduceAdd, Nat.reduceSub, Nat.reduceMul, Nat.reduceLeDiff, reduceCtorEq, Bool.false_eq_true, Nat.reduceLT]; rfl); clear hK K1
  refine ACode.block ?_
  refine ACode.loop (fun m ρ H' => ∃ (k : Nat) (x : AV), m = l.length - k ∧ k ≤ l.length ∧ AppSt H 1 (((l.take k).map (·.note)).map str) x H' ∧ ρ = [(3, x), (6, .slr b 3 i j), (7, int l.length), (8, int k)]) l.length ⟨0, _, rfl, Nat.zero_le _, AppSt.nil, by rw [← hcap]; rfl⟩ ?_
  rintro m ρ H' ⟨k, x, rfl, hkl, hst, rfl⟩
  have hb' := hst.1 _ _ hb
  simp -implicitDefEqProofs only [go_sem, ↓reduceIte, Nat.reduceEqDiff, Nat.reduceAdd, Nat.reduceSub, Nat.reduceMul, Nat.reduceLeDiff, reduceCtorEq, Bool.false_eq_true, Nat.reduceLT, aAppend]
  refine ACode.seq ?_
  refine ACode.region [3, 6, 7, 8, 9] rfl fun K1 hK => ?_
  simp -implicitDefEqProofs only [go_sem, ↓reduceIte, Nat.reduceEqDiff, Nat.reduceAdd, Nat.reduceSub, Nat.reduceMul, Nat.reduceLeDiff, reduceCtorEq, Bool.false_eq_true, Nat.reduceLT, aAppend]
  refine hK _ _ ?_ _ (by simp -implicitDefEqProofs only [go_sem, ↓reduceIte, Nat.reduceEqDiff, Nat.reduceAdd, Nat.reduceSub, Nat.reduceMul, Nat.reduceLeDiff, reduceCtorEq, Bool.false_eq_true, Nat.reduceLT]; rfl); clear hK K1
  refine ACode.seq ?_
  refine ACode.cond rfl (fun h => ?_) (fun h => ?_)
  · -- yes
    try simp only [decide_eq_true_eq] at h
    obtain ⟨s, hx, hd, hm, ht⟩ := at_drop l k (by omega)
    have hx2 := hat k s hx
    refine ACode.skip ?_
    refine ACode.seq ?_
    refine ACode.block ?_
    refine ACode.seq ?_
    refine ACode.region [3, 5, 6, 7, 8] rfl fun K1 hK => ?_
    simp -implicitDefEqProofs only [go_sem, ↓reduceIte, Nat.reduceEqDiff, Nat.reduceAdd, Nat.reduceSub, Nat.reduceMul, Nat.reduceLeDiff, reduceCtorEq, Bool.false_eq_true, Nat.reduceLT, aAppend, hb', hx2, eStep]
    refine ⟨by omega, fun p hp => ?_⟩
    refine hK _ _ ?_ _ (by simp -implicitDefEqProofs only [go_sem, ↓reduceIte, Nat.reduceEqDiff, Nat.reduceAdd, Nat.reduceSub, Nat.reduceMul, Nat.reduceLeDiff, reduceCtorEq, Bool.false_eq_true, Nat.reduceLT]; rfl); clear hK K1
    refine ACode.freeze1 p 5 (Heap.upd_same _ _ _) ?_
    simp -implicitDefEqProofs only [go_sem, ↓reduceIte, Nat.reduceEqDiff, Nat.reduceAdd, Nat.reduceSub, Nat.reduceMul, Nat.reduceLeDiff, reduceCtorEq, Bool.false_eq_true, Nat.reduceLT, aAppend, Heap.erase_upd_same _ p _ hp]
    refine ACode.region [3, 6, 7, 8] rfl fun K1 hK => ?_
    simp -implicitDefEqProofs only [go_sem, ↓reduceIte, Nat.reduceEqDiff, Nat.reduceAdd, Nat.reduceSub, Nat.reduceMul, Nat.reduceLeDiff, reduceCtorEq, Bool.false_eq_true, Nat.reduceLT]
    intro q hq
    refine AppSt.append (hst.le (Heap.le_upd hq)) el43 ze9 ni43 (by omega) (by omega) (srcOf_one _ _ _ _) (sizesAre_one rfl) (by simp; omega) fun x' H2 hst' => ?_
    simp -implicitDefEqProofs only [go_sem, ↓reduceIte, Nat.reduceEqDiff, Nat.reduceAdd, Nat.reduceSub, Nat.reduceMul, Nat.reduceLeDiff, reduceCtorEq, Bool.false_eq_true, Nat.reduceLT, aAppend]
    refine hK _ _ ?_ _ (by simp -implicitDefEqProofs only [go_sem, ↓reduceIte, Nat.reduceEqDiff, Nat.reduceAdd, Nat.reduceSub, Nat.reduceMul, Nat.reduceLeDiff, reduceCtorEq, Bool.false_eq_true, Nat.reduceLT]; rfl); clear hK K1
    refine ACode.region [3, 6, 7, 8] rfl fun K1 hK => ?_
    simp -implicitDefEqProofs only [go_sem, ↓reduceIte, Nat.reduceEqDiff, Nat.reduceAdd, Nat.reduceSub, Nat.reduceMul, Nat.reduceLeDiff, reduceCtorEq, Bool.false_eq_true, Nat.reduceLT, aAppend]
    rw [wrap_i64 (by omega) (by omega)]
    refine hK _ _ ?_ _ (by simp -implicitDefEqProofs only [go_sem, ↓reduceIte, Nat.reduceEqDiff, Nat.reduceAdd, Nat.reduceSub, Nat.reduceMul, Nat.reduceLeDiff, reduceCtorEq, Bool.false_eq_true, Nat.reduceLT]; rfl); clear hK K1
    refine ⟨_, by omega, k + 1, x', rfl, by omega, ?_, by simp <;> rfl⟩
    rw [ht]; simpa [str] using hst'
  · -- no
    try simp only [decide_eq_false_iff_not] at h
    refine ACode.exit ?_
    rw [take_end l k h] at hst
    refine ACode.seq ?_
    refine ACode.region [2] rfl fun K1 hK => ?_
    simp -implicitDefEqProofs only [go_sem, ↓reduceIte, Nat.reduceEqDiff, Nat.reduceAdd, Nat.reduceSub, Nat.reduceMul, Nat.reduceLeDiff, reduceCtorEq, Bool.false_eq_true, Nat.reduceLT, aAppend]
    refine hK _ _ ?_ _ (by simp -implicitDefEqProofs only [go_sem, ↓reduceIte, Nat.reduceEqDiff, Nat.reduceAdd, Nat.reduceSub, Nat.reduceMul, Nat.reduceLeDiff, reduceCtorEq, Bool.false_eq_true, Nat.reduceLT]; rfl); clear hK K1
    refine AppSt.done 2 hst rfl ?_
    simp -implicitDefEqProofs only [go_sem, ↓reduceIte, Nat.reduceEqDiff, Nat.reduceAdd, Nat.reduceSub, Nat.reduceMul, Nat.reduceLeDiff, reduceCtorEq, Bool.false_eq_true, Nat.reduceLT, aAppend]
    refine ACode.ret ?_
    exact hk


/-- whetstone/history.notes: of none -/
theorem c29n (H : Heap) (K : AV → Heap → Prop) (hk : K (.sl []) H) : ACalls Try.prog 29 [.v (.slice none 0 0)] H K := by
  refine ACalls.of_code Try.func29 rfl (by kernel_rfl) rfl (by simp [Try.ntmps29]) ?_
  rw [Try.ntmps29, Try.results29]; simp -implicitDefEqProofs only [go_sem, ↓reduceIte, Nat.reduceEqDiff, Nat.reduceAdd, Nat.reduceSub, Nat.reduceMul, Nat.reduceLeDiff, reduceCtorEq, Bool.false_eq_true, Nat.reduceLT, aAppend]
  refine ACode.seq ?_
  refine ACode.region [0] rfl fun K1 hK => ?_
  simp -implicitDefEqProofs only [go_sem, ↓reduceIte, Nat.reduceEqDiff, Nat.reduceAdd, Nat.reduceSub, Nat.reduceMul, Nat.reduceLeDiff, reduceCtorEq, Bool.false_eq_true, Nat.reduceLT, aAppend]
  refine hK _ _ ?_ _ (by simp -implicitDefEqProofs only [go_sem, ↓reduceIte, Nat.reduceEqDiff, Nat.reduceAdd, Nat.reduceSub, Nat.reduceMul, Nat.reduceLeDiff, reduceCtorEq, Bool.false_eq_true, Nat.reduceLT]; rfl); clear hK K1
  refine ACode.seq ?_
  refine ACode.region [0, 3] rfl fun K1 hK => ?_
  simp -implicitDefEqProofs only [go_sem, ↓reduceIte, Nat.reduceEqDiff, Nat.reduceAdd, Nat.reduceSub, Nat.reduceMul, Nat.reduceLeDiff, reduceCtorEq, Bool.false_eq_true, Nat.reduceLT, aAppend]
  refine hK _ _ ?_ _ (by simp -implicitDefEqProofs only [go_sem, ↓reduceIte, Nat.reduceEqDiff, Nat.reduceAdd, Nat.reduceSub, Nat.reduceMul, Nat.reduceLeDiff, reduceCtorEq, Bool.false_eq_true, Nat.reduceLT]; rfl); clear hK K1
  refine ACode.seq ?_
  refine ACode.seq ?_
  refine ACode.region [3, 6, 7, 8] rfl fun K1 hK => ?_
  simp -implicitDefEqProofs only [go_sem, ↓reduceIte, Nat.reduceEqDiff, Nat.reduceAdd, Nat.reduceSub, Nat.reduceMul, Nat.reduceLeDiff, reduceCtorEq, Bool.false_eq_true, Nat.reduceLT, aAppend]
  refine hK _ _ ?_ _ (by simp -implicitDefEqProofs only [go_sem, ↓reduceIte, Nat.reduceEqDiff, Nat.reduceAdd, Nat.reduceSub, Nat.reduceMul, Nat.reduceLeDiff, reduceCtorEq, Bool.false_eq_true, Nat.reduceLT]; rfl); clear hK K1
  refine ACode.block ?_
  refine ACode.loop (fun m ρ H' => m = 0 ∧ H' = H ∧ ρ = [(3, .v (.slice none 0 0)), (6, .v (.slice none 0 0)), (7, int 0), (8, int 0)]) 0 ⟨rfl, rfl, rfl⟩ ?_
  rintro m ρ H' ⟨rfl, rfl, rfl⟩
  simp -implicitDefEqProofs only [go_sem, ↓reduceIte, Nat.reduceEqDiff, Nat.reduceAdd, Nat.reduceSub, Nat.reduceMul, Nat.reduceLeDiff, reduceCtorEq, Bool.false_eq_true, Nat.reduceLT, aAppend]
  refine ACode.seq ?_
  refine ACode.region [3, 6, 7, 8, 9] rfl fun K1 hK => ?_
  simp -implicitDefEqProofs only [go_sem, ↓reduceIte, Nat.reduceEqDiff, Nat.reduceAdd, Nat.reduceSub, Nat.reduceMul, Nat.reduceLeDiff, reduceCtorEq, Bool.false_eq_true, Nat.reduceLT, aAppend]
  refine hK _ _ ?_ _ (by simp -implicitDefEqProofs only [go_sem, ↓reduceIte, Nat.reduceEqDiff, Nat.reduceAdd, Nat.reduceSub, Nat.reduceMul, Nat.reduceLeDiff, reduceCtorEq, Bool.false_eq_true, Nat.reduceLT]; rfl); clear hK K1
  refine ACode.seq ?_
  refine ACode.cond rfl (fun h => ?_) (fun h => ?_)
  · -- yes
    cases h
  · -- no
    try simp only [decide_eq_false_iff_not] at h
    refine ACode.exit ?_
    refine ACode.seq ?_
    refine ACode.region [2] rfl fun K1 hK => ?_
    simp -implicitDefEqProofs only [go_sem, ↓reduceIte, Nat.reduceEqDiff, Nat.reduceAdd, Nat.reduceSub, Nat.reduceMul, Nat.reduceLeDiff, reduceCtorEq, Bool.false_eq_true, Nat.reduceLT, aAppend]
    refine hK _ _ ?_ _ (by simp -implicitDefEqProofs only [go_sem, ↓reduceIte, Nat.reduceEqDiff, Nat.reduceAdd, Nat.reduceSub, Nat.reduceMul, Nat.reduceLeDiff, reduceCtorEq, Bool.false_eq_true, Nat.reduceLT]; rfl); clear hK K1
    refine ACode.soft 2 ?_
    simp -implicitDefEqProofs only [go_sem, ↓reduceIte, Nat.reduceEqDiff, Nat.reduceAdd, Nat.reduceSub, Nat.reduceMul, Nat.reduceLeDiff, reduceCtorEq, Bool.false_eq_true, Nat.reduceLT, aAppend, AV.soft]
    refine ACode.ret ?_
    exact hk


/-- whetstone/whetstonelaw31.notes: of a row of our own -/
theorem c20 (b i j : Nat) (row : List State) (hij : i ≤ j) (hj : j ≤ row.length) (hr : row.length ≤ 1000000000000) (H : Heap) (hb : H b = some (.arr 2 (row.map eState)))
    (K : AV → Heap → Prop) (hk : K (.sl ((((row.take j).drop i).map (·.Note)).map str)) H) : ACalls Try.prog 20 [.slr b 2 i j] H K := by
  generalize hl : (row.take j).drop i = l at hk
  have hll : l.length = j - i := by rw [← hl]; simp; omega
  have hat : ∀ k x, l[k]? = some x → row[i + k]? = some x := fun k x hx => by
    rw [← hl, List.getElem?_drop, List.getElem?_take] at hx
    split at hx
    · exact hx
    · cases hx
  have hcap : ((j - i : Nat) : Int) = l.length := by omega
  refine ACalls.of_code Try.func20 rfl (by kernel_rfl) rfl (by simp [Try.ntmps20]) ?_
  rw [Try.ntmps20, Try.results20]; simp -implicitDefEqProofs only [go_sem, ↓reduceIte, Nat.reduceEqDiff, Nat.reduceAdd, Nat.reduceSub, Nat.reduceMul, Nat.reduceLeDiff, reduceCtorEq, Bool.false_eq_true, Nat.reduceLT, aAppend]
  refine ACode.seq ?_
  refine ACode.region [0] rfl fun K1 hK => ?_
  simp -implicitDefEqProofs only [go_sem, ↓reduceIte, Nat.reduceEqDiff, Nat.reduceAdd, Nat.reduceSub, Nat.reduceMul, Nat.reduceLeDiff, reduceCtorEq, Bool.false_eq_true, Nat.reduceLT, aAppend]
  refine hK _ _ ?_ _ (by simp -implicitDefEqProofs only [go_sem, ↓reduceIte, Nat.reduceEqDiff, Nat.reduceAdd, Nat.reduceSub, Nat.reduceMul, Nat.reduceLeDiff, reduceCtorEq, Bool.false_eq_true, Nat.reduceLT]; rfl); clear hK K1
  refine ACode.seq ?_
  refine ACode.region [0, 3] rfl fun K1 hK => ?_
  simp -implicitDefEqProofs only [go_sem, ↓reduceIte, Nat.reduceEqDiff, Nat.reduceAdd, Nat.reduceSub, Nat.reduceMul, Nat.reduceLeDiff, reduceCtorEq, Bool.false_eq_true, Nat.reduceLT, aAppend]
  refine hK _ _ ?_ _ (by simp -implicitDefEqProofs only [go_sem, ↓reduceIte, Nat.reduceEqDiff, Nat.reduceAdd, Nat.reduceSub, Nat.reduceMul, Nat.reduceLeDiff, reduceCtorEq, Bool.false_eq_true, Nat.reduceLT]; rfl); clear hK K1
  refine ACode.seq ?_
  refine ACode.seq ?_
  refine ACode.region [3, 6, 7, 8] rfl fun K1 hK => ?_
  simp -implicitDefEqProofs only [go_sem, ↓reduceIte, Nat.reduceEqDiff, Nat.reduceAdd, Nat.reduceSub, Nat.reduceMul, Nat.reduceLeDiff, reduceCtorEq, Bool.false_eq_true, Nat.reduceLT, aAppend]
  refine hK _ _ ?_ _ (by simp -implicitDefEqProofs only [go_sem, ↓reduceIte, Nat.reduceEqDiff, Nat.reduceAdd, Nat.reduceSub, Nat.reduceMul, Nat.reduceLeDiff, reduceCtorEq, Bool.false_eq_true, Nat.reduceLT]; rfl); clear hK K1
  refine ACode.block ?_
  refine ACode.loop (fun m ρ H' => ∃ (k : Nat) (x : AV), m = l.length - k ∧ k ≤ l.length ∧ AppSt H 1 (((l.take k).map (·.Note)).map str) x H' ∧ ρ = [(3, x), (6, .slr b 2 i j), (7, int l.length), (8, int k)]) l.length ⟨0, _, rfl, Nat.zero_le _, AppSt.nil, by rw [← hcap]; rfl⟩ ?_
  rintro m ρ H' ⟨k, x, rfl, hkl, hst, rfl⟩
  have hb' := hst.1 _ _ hb
  simp -implicitDefEqProofs only [go_sem, ↓reduceIte, Nat.reduceEqDiff, Nat.reduceAdd, Nat.reduceSub, Nat.reduceMul, Nat.reduceLeDiff, reduceCtorEq, Bool.false_eq_true, Nat.reduceLT, aAppend]
  refine ACode.seq ?_
  refine ACode.region [3, 6, 7, 8, 9] rfl fun K1 hK => ?_
  simp -implicitDefEqProofs only [go_sem, ↓reduceIte, Nat.reduceEqDiff, Nat.reduceAdd, Nat.reduceSub, Nat.reduceMul, Nat.reduceLeDiff, reduceCtorEq, Bool.false_eq_true, Nat.reduceLT, aAppend]
  refine hK _ _ ?_ _ (by simp -implicitDefEqProofs only [go_sem, ↓reduceIte, Nat.reduceEqDiff, Nat.reduceAdd, Nat.reduceSub, Nat.reduceMul, Nat.reduceLeDiff, reduceCtorEq, Bool.false_eq_true, Nat.reduceLT]; rfl); clear hK K1
  refine ACode.seq ?_
  refine ACode.cond rfl (fun h => ?_) (fun h => ?_)
  · -- yes
    try simp only [decide_eq_true_eq] at h
    obtain ⟨s, hx, hd, hm, ht⟩ := at_drop l k (by omega)
    have hx2 := hat k s hx
    refine ACode.skip ?_
    refine ACode.seq ?_
    refine ACode.block ?_
    refine ACode.seq ?_
    refine ACode.region [3, 5, 6, 7, 8] rfl fun K1 hK => ?_
    simp -implicitDefEqProofs only [go_sem, ↓reduceIte, Nat.reduceEqDiff, Nat.reduceAdd, Nat.reduceSub, Nat.reduceMul, Nat.reduceLeDiff, reduceCtorEq, Bool.false_eq_true, Nat.reduceLT, aAppend, hb', hx2, eState]
    refine ⟨by omega, fun p hp => ?_⟩
    refine hK _ _ ?_ _ (by simp -implicitDefEqProofs only [go_sem, ↓reduceIte, Nat.reduceEqDiff, Nat.reduceAdd, Nat.reduceSub, Nat.reduceMul, Nat.reduceLeDiff, reduceCtorEq, Bool.false_eq_true, Nat.reduceLT]; rfl); clear hK K1
    refine ACode.freeze1 p 5 (Heap.upd_same _ _ _) ?_
    simp -implicitDefEqProofs only [go_sem, ↓reduceIte, Nat.reduceEqDiff, Nat.reduceAdd, Nat.reduceSub, Nat.reduceMul, Nat.reduceLeDiff, reduceCtorEq, Bool.false_eq_true, Nat.reduceLT, aAppend, Heap.erase_upd_same _ p _ hp]
    refine ACode.region [3, 6, 7, 8] rfl fun K1 hK => ?_
    simp -implicitDefEqProofs only [go_sem, ↓reduceIte, Nat.reduceEqDiff, Nat.reduceAdd, Nat.reduceSub, Nat.reduceMul, Nat.reduceLeDiff, reduceCtorEq, Bool.false_eq_true, Nat.reduceLT]
    intro q hq
    refine AppSt.append (hst.le (Heap.le_upd hq)) el43 ze9 ni43 (by omega) (by omega) (srcOf_one _ _ _ _) (sizesAre_one rfl) (by simp; omega) fun x' H2 hst' => ?_
    simp -implicitDefEqProofs only [go_sem, ↓reduceIte, Nat.reduceEqDiff, Nat.reduceAdd, Nat.reduceSub, Nat.reduceMul, Nat.reduceLeDiff, reduceCtorEq, Bool.false_eq_true, Nat.reduceLT, aAppend]
    refine hK _ _ ?_ _ (by simp -implicitDefEqProofs only [go_sem, ↓reduceIte, Nat.reduceEqDiff, Nat.reduceAdd, Nat.reduceSub, Nat.reduceMul, Nat.reduceLeDiff, reduceCtorEq, Bool.false_eq_true, Nat.reduceLT]; rfl); clear hK K1
    refine ACode.region [3, 6, 7, 8] rfl fun K1 hK => ?_
    simp -implicitDefEqProofs only [go_sem, ↓reduceIte, Nat.reduceEqDiff, Nat.reduceAdd, Nat.reduceSub, Nat.reduceMul, Nat.reduceLeDiff, reduceCtorEq, Bool.false_eq_true, Nat.reduceLT, aAppend]
    rw [wrap_i64 (by omega) (by omega)]
    refine hK _ _ ?_ _ (by simp -implicitDefEqProofs only [go_sem, ↓reduceIte, Nat.reduceEqDiff, Nat.reduceAdd, Nat.reduceSub, Nat.reduceMul, Nat.reduceLeDiff, reduceCtorEq, Bool.false_eq_true, Nat.reduceLT]; rfl); clear hK K1
    refine ⟨_, by omega, k + 1, x', rfl, by omega, ?_, by simp <;> rfl⟩
    rw [ht]; simpa [str] using hst'
  · -- no
    try simp only [decide_eq_false_iff_not] at h
    refine ACode.exit ?_
    rw [take_end l k h] at hst
    refine ACode.seq ?_
    refine ACode.region [2] rfl fun K1 hK => ?_
    simp -implicitDefEqProofs only [go_sem, ↓reduceIte, Nat.reduceEqDiff, Nat.reduceAdd, Nat.reduceSub, Nat.reduceMul, Nat.reduceLeDiff, reduceCtorEq, Bool.false_eq_true, Nat.reduceLT, aAppend]
    refine hK _ _ ?_ _ (by simp -implicitDefEqProofs only [go_sem, ↓reduceIte, Nat.reduceEqDiff, Nat.reduceAdd, Nat.reduceSub, Nat.reduceMul, Nat.reduceLeDiff, reduceCtorEq, Bool.false_eq_true, Nat.reduceLT]; rfl); clear hK K1
    refine AppSt.done 2 hst rfl ?_
    simp -implicitDefEqProofs only [go_sem, ↓reduceIte, Nat.reduceEqDiff, Nat.reduceAdd, Nat.reduceSub, Nat.reduceMul, Nat.reduceLeDiff, reduceCtorEq, Bool.false_eq_true, Nat.reduceLT, aAppend]
    refine ACode.ret ?_
    exact hk


/-- whetstone/whetstonelaw31.notes: of none -/
theorem c20n (H : Heap) (K : AV → Heap → Prop) (hk : K (.sl []) H) : ACalls Try.prog 20 [.v (.slice none 0 0)] H K := by
  refine ACalls.of_code Try.func20 rfl (by kernel_rfl) rfl (by simp [Try.ntmps20]) ?_
  rw [Try.ntmps20, Try.results20]; simp -implicitDefEqProofs only [go_sem, ↓reduceIte, Nat.reduceEqDiff, Nat.reduceAdd, Nat.reduceSub, Nat.reduceMul, Nat.reduceLeDiff, reduceCtorEq, Bool.false_eq_true, Nat.reduceLT, aAppend]
  refine ACode.seq ?_
  refine ACode.region [0] rfl fun K1 hK => ?_
  simp -implicitDefEqProofs only [go_sem, ↓reduceIte, Nat.reduceEqDiff, Nat.reduceAdd, Nat.reduceSub, Nat.reduceMul, Nat.reduceLeDiff, reduceCtorEq, Bool.false_eq_true, Nat.reduceLT, aAppend]
  refine hK _ _ ?_ _ (by simp -implicitDefEqProofs only [go_sem, ↓reduceIte, Nat.reduceEqDiff, Nat.reduceAdd, Nat.reduceSub, Nat.reduceMul, Nat.reduceLeDiff, reduceCtorEq, Bool.false_eq_true, Nat.reduceLT]; rfl); clear hK K1
  refine ACode.seq ?_
  refine ACode.region [0, 3] rfl fun K1 hK => ?_
  simp -implicitDefEqProofs only [go_sem, ↓reduceIte, Nat.reduceEqDiff, Nat.reduceAdd, Nat.reduceSub, Nat.reduceMul, Nat.reduceLeDiff, reduceCtorEq, Bool.false_eq_true, Nat.reduceLT, aAppend]
  refine hK _ _ ?_ _ (by simp -implicitDefEqProofs only [go_sem, ↓reduceIte, Nat.reduceEqDiff, Nat.reduceAdd, Nat.reduceSub, Nat.reduceMul, Nat.reduceLeDiff, reduceCtorEq, Bool.false_eq_true, Nat.reduceLT]; rfl); clear hK K1
  refine ACode.seq ?_
  refine ACode.seq ?_
  refine ACode.region [3, 6, 7, 8] rfl fun K1 hK => ?_
  simp -implicitDefEqProofs only [go_sem, ↓reduceIte, Nat.reduceEqDiff, Nat.reduceAdd, Nat.reduceSub, Nat.reduceMul, Nat.reduceLeDiff, reduceCtorEq, Bool.false_eq_true, Nat.reduceLT, aAppend]
  refine hK _ _ ?_ _ (by simp -implicitDefEqProofs only [go_sem, ↓reduceIte, Nat.reduceEqDiff, Nat.reduceAdd, Nat.reduceSub, Nat.reduceMul, Nat.reduceLeDiff, reduceCtorEq, Bool.false_eq_true, Nat.reduceLT]; rfl); clear hK K1
  refine ACode.block ?_
  refine ACode.loop (fun m ρ H' => m = 0 ∧ H' = H ∧ ρ = [(3, .v (.slice none 0 0)), (6, .v (.slice none 0 0)), (7, int 0), (8, int 0)]) 0 ⟨rfl, rfl, rfl⟩ ?_
  rintro m ρ H' ⟨rfl, rfl, rfl⟩
  simp -implicitDefEqProofs only [go_sem, ↓reduceIte, Nat.reduceEqDiff, Nat.reduceAdd, Nat.reduceSub, Nat.reduceMul, Nat.reduceLeDiff, reduceCtorEq, Bool.false_eq_true, Nat.reduceLT, aAppend]
  refine ACode.seq ?_
  refine ACode.region [3, 6, 7, 8, 9] rfl fun K1 hK => ?_
  simp -implicitDefEqProofs only [go_sem, ↓reduceIte, Nat.reduceEqDiff, Nat.reduceAdd, Nat.reduceSub, Nat.reduceMul, Nat.reduceLeDiff, reduceCtorEq, Bool.false_eq_true, Nat.reduceLT, aAppend]
  refine hK _ _ ?_ _ (by simp -implicitDefEqProofs only [go_sem, ↓reduceIte, Nat.reduceEqDiff, Nat.reduceAdd, Nat.reduceSub, Nat.reduceMul, Nat.reduceLeDiff, reduceCtorEq, Bool.false_eq_true, Nat.reduceLT]; rfl); clear hK K1
  refine ACode.seq ?_
  refine ACode.cond rfl (fun h => ?_) (fun h => ?_)
  · -- yes
    cases h
  · -- no
    try simp only [decide_eq_false_iff_not] at h
    refine ACode.exit ?_
    refine ACode.seq ?_
    refine ACode.region [2] rfl fun K1 hK => ?_
    simp -implicitDefEqProofs only [go_sem, ↓reduceIte, Nat.reduceEqDiff, Nat.reduceAdd, Nat.reduceSub, Nat.reduceMul, Nat.reduceLeDiff, reduceCtorEq, Bool.false_eq_true, Nat.reduceLT, aAppend]
    refine hK _ _ ?_ _ (by simp -implicitDefEqProofs only [go_sem, ↓reduceIte, Nat.reduceEqDiff, Nat.reduceAdd, Nat.reduceSub, Nat.reduceMul, Nat.reduceLeDiff, reduceCtorEq, Bool.false_eq_true, Nat.reduceLT]; rfl); clear hK K1
    refine ACode.soft 2 ?_
    simp -implicitDefEqProofs only [go_sem, ↓reduceIte, Nat.reduceEqDiff, Nat.reduceAdd, Nat.reduceSub, Nat.reduceMul, Nat.reduceLeDiff, reduceCtorEq, Bool.false_eq_true, Nat.reduceLT, aAppend, AV.soft]
    refine ACode.ret ?_
    exact hk


end Go.Flow

