/-
  Modules behind changes: the program's and the reference's. No condition.
-/
import Derived.Test.YtlcggoafbafldaaHistJ
set_option linter.unusedVariables false
set_option linter.unusedSimpArgs false
set_option maxRecDepth 20000
namespace Go.Flow
open Go Go.Proofs

/-- of a row of our own: whetstone/whetstoneref17.Find -/
theorem c40r (b : Nat) (l : List Mod) (name : List UInt8) (hl : l.length ≤ 140737488355328) (H : Heap) (hb : H b = some (.arr 2 (l.map eMod))) (K : AV → Heap → Prop) (hk : K (int (findMod l name)) H) : ACalls Try.prog 40 [.slr b 2 0 l.length, str name] H K := by
  refine ACalls.of_code Try.func40 rfl (by kernel_rfl) rfl (by simp [Try.ntmps40]) ?_
  rw [Try.ntmps40, Try.results40]; simp -implicitDefEqProofs only [go_sem, ↓reduceIte, Nat.reduceEqDiff, Nat.reduceAdd, Nat.reduceSub, Nat.reduceMul, Nat.reduceLeDiff, reduceCtorEq, Bool.false_eq_true, Nat.reduceLT, aAppend]
  refine ACode.seq ?_
  refine ACode.region [0, 1] rfl fun K1 hK => ?_
  simp -implicitDefEqProofs only [go_sem, ↓reduceIte, Nat.reduceEqDiff, Nat.reduceAdd, Nat.reduceSub, Nat.reduceMul, Nat.reduceLeDiff, reduceCtorEq, Bool.false_eq_true, Nat.reduceLT, aAppend]
  refine hK _ _ ?_ _ (by simp -implicitDefEqProofs only [go_sem, ↓reduceIte, Nat.reduceEqDiff, Nat.reduceAdd, Nat.reduceSub, Nat.reduceMul, Nat.reduceLeDiff, reduceCtorEq, Bool.false_eq_true, Nat.reduceLT]; rfl); clear hK K1
  refine ACode.seq ?_
  refine ACode.seq ?_
  refine ACode.region [0, 1, 5] rfl fun K1 hK => ?_
  simp -implicitDefEqProofs only [go_sem, ↓reduceIte, Nat.reduceEqDiff, Nat.reduceAdd, Nat.reduceSub, Nat.reduceMul, Nat.reduceLeDiff, reduceCtorEq, Bool.false_eq_true, Nat.reduceLT, aAppend]
  refine hK _ _ ?_ _ (by simp -implicitDefEqProofs only [go_sem, ↓reduceIte, Nat.reduceEqDiff, Nat.reduceAdd, Nat.reduceSub, Nat.reduceMul, Nat.reduceLeDiff, reduceCtorEq, Bool.false_eq_true, Nat.reduceLT]; rfl); clear hK K1
  refine ACode.block ?_
  refine ACode.loop (fun m ρ H' => ∃ k : Nat, m = l.length - k ∧ k ≤ l.length ∧ findMod l name = findFrom k name (l.drop k) ∧ H' = H ∧ ρ = [(0, .slr b 2 0 l.length), (1, str name), (5, int k)]) l.length ⟨0, rfl, Nat.zero_le _, rfl, rfl, rfl⟩ ?_
  rintro m ρ H' ⟨k, rfl, hkl, hs, rfl, rfl⟩
  simp -implicitDefEqProofs only [go_sem, ↓reduceIte, Nat.reduceEqDiff, Nat.reduceAdd, Nat.reduceSub, Nat.reduceMul, Nat.reduceLeDiff, reduceCtorEq, Bool.false_eq_true, Nat.reduceLT, aAppend]
  refine ACode.seq ?_
  refine ACode.seq ?_
  refine ACode.region [0, 1, 5, 9] rfl fun K1 hK => ?_
  simp -implicitDefEqProofs only [go_sem, ↓reduceIte, Nat.reduceEqDiff, Nat.reduceAdd, Nat.reduceSub, Nat.reduceMul, Nat.reduceLeDiff, reduceCtorEq, Bool.false_eq_true, Nat.reduceLT, aAppend]
  refine hK _ _ ?_ _ (by simp -implicitDefEqProofs only [go_sem, ↓reduceIte, Nat.reduceEqDiff, Nat.reduceAdd, Nat.reduceSub, Nat.reduceMul, Nat.reduceLeDiff, reduceCtorEq, Bool.false_eq_true, Nat.reduceLT]; rfl); clear hK K1
  refine ACode.cond rfl (fun h => ?_) (fun h => ?_)
  · -- yes
    try simp only [decide_eq_true_eq] at h
    obtain ⟨x, hx, hd, -, -⟩ := at_drop l k (by omega)
    refine ACode.skip ?_
    refine ACode.seq ?_
    refine ACode.block ?_
    refine ACode.seq ?_
    refine ACode.region [0, 1, 5, 18] rfl fun K1 hK => ?_
    simp -implicitDefEqProofs only [go_sem, ↓reduceIte, Nat.reduceEqDiff, Nat.reduceAdd, Nat.reduceSub, Nat.reduceMul, Nat.reduceLeDiff, reduceCtorEq, Bool.false_eq_true, Nat.reduceLT, aAppend, hb, hx, eMod]
    refine ⟨by omega, ?_⟩
    refine hK _ _ ?_ _ (by simp -implicitDefEqProofs only [go_sem, ↓reduceIte, Nat.reduceEqDiff, Nat.reduceAdd, Nat.reduceSub, Nat.reduceMul, Nat.reduceLeDiff, reduceCtorEq, Bool.false_eq_true, Nat.reduceLT]; rfl); clear hK K1
    refine ACode.cond rfl (fun h => ?_) (fun h => ?_)
    · -- yes
      try simp only [decide_eq_true_eq] at h
      refine ACode.seq ?_
      refine ACode.region [4] rfl fun K1 hK => ?_
      simp -implicitDefEqProofs only [go_sem, ↓reduceIte, Nat.reduceEqDiff, Nat.reduceAdd, Nat.reduceSub, Nat.reduceMul, Nat.reduceLeDiff, reduceCtorEq, Bool.false_eq_true, Nat.reduceLT, aAppend]
      refine hK _ _ ?_ _ (by simp -implicitDefEqProofs only [go_sem, ↓reduceIte, Nat.reduceEqDiff, Nat.reduceAdd, Nat.reduceSub, Nat.reduceMul, Nat.reduceLeDiff, reduceCtorEq, Bool.false_eq_true, Nat.reduceLT]; rfl); clear hK K1
      refine ACode.ret ?_
      rw [hs, hd, findFrom, if_pos h] at hk
      exact hk
    · -- no
      try simp only [decide_eq_false_iff_not] at h
      refine ACode.skip ?_
      refine ACode.region [0, 1, 5] rfl fun K1 hK => ?_
      simp -implicitDefEqProofs only [go_sem, ↓reduceIte, Nat.reduceEqDiff, Nat.reduceAdd, Nat.reduceSub, Nat.reduceMul, Nat.reduceLeDiff, reduceCtorEq, Bool.false_eq_true, Nat.reduceLT, aAppend]
      rw [wrap_i64 (by omega) (by omega)]
      refine hK _ _ ?_ _ (by simp -implicitDefEqProofs only [go_sem, ↓reduceIte, Nat.reduceEqDiff, Nat.reduceAdd, Nat.reduceSub, Nat.reduceMul, Nat.reduceLeDiff, reduceCtorEq, Bool.false_eq_true, Nat.reduceLT]; rfl); clear hK K1
      refine ⟨_, by omega, k + 1, rfl, by omega, ?_, rfl, ?_⟩
      · rw [hs, hd, findFrom, if_neg h]
      · simp
  · -- no
    try simp only [decide_eq_false_iff_not] at h
    refine ACode.exit ?_
    rw [hs, drop_end l k h, findFrom] at hk
    refine ACode.seq ?_
    refine ACode.region [4] rfl fun K1 hK => ?_
    simp -implicitDefEqProofs only [go_sem, ↓reduceIte, Nat.reduceEqDiff, Nat.reduceAdd, Nat.reduceSub, Nat.reduceMul, Nat.reduceLeDiff, reduceCtorEq, Bool.false_eq_true, Nat.reduceLT, aAppend]
    refine hK _ _ ?_ _ (by simp -implicitDefEqProofs only [go_sem, ↓reduceIte, Nat.reduceEqDiff, Nat.reduceAdd, Nat.reduceSub, Nat.reduceMul, Nat.reduceLeDiff, reduceCtorEq, Bool.false_eq_true, Nat.reduceLT]; rfl); clear hK K1
    refine ACode.ret ?_
    exact hk


/-- of a row of our own: slices.IndexFunc, with Find$1 -/
theorem c36r (b : Nat) (l : List Mod) (name : List UInt8) (hl : l.length ≤ 140737488355328) (H : Heap) (hb : H b = some (.arr 2 (l.map eMod))) (K : AV → Heap → Prop) (hk : K (int (findMod l name)) H) : ACalls Try.prog 36 [.slr b 2 0 l.length, .fn 37 [] [.ip (str name)]] H K := by
  refine ACalls.of_code Try.func36 rfl (by kernel_rfl) rfl (by simp [Try.ntmps36]) ?_
  rw [Try.ntmps36, Try.results36]; simp -implicitDefEqProofs only [go_sem, ↓reduceIte, Nat.reduceEqDiff, Nat.reduceAdd, Nat.reduceSub, Nat.reduceMul, Nat.reduceLeDiff, reduceCtorEq, Bool.false_eq_true, Nat.reduceLT, aAppend]
  refine ACode.seq ?_
  refine ACode.region [0, 1] rfl fun K1 hK => ?_
  simp -implicitDefEqProofs only [go_sem, ↓reduceIte, Nat.reduceEqDiff, Nat.reduceAdd, Nat.reduceSub, Nat.reduceMul, Nat.reduceLeDiff, reduceCtorEq, Bool.false_eq_true, Nat.reduceLT, aAppend]
  refine hK _ _ ?_ _ (by simp -implicitDefEqProofs only [go_sem, ↓reduceIte, Nat.reduceEqDiff, Nat.reduceAdd, Nat.reduceSub, Nat.reduceMul, Nat.reduceLeDiff, reduceCtorEq, Bool.false_eq_true, Nat.reduceLT]; rfl); clear hK K1
  refine ACode.seq ?_
  refine ACode.seq ?_
  refine ACode.region [0, 1, 7, 8] rfl fun K1 hK => ?_
  simp -implicitDefEqProofs only [go_sem, ↓reduceIte, Nat.reduceEqDiff, Nat.reduceAdd, Nat.reduceSub, Nat.reduceMul, Nat.reduceLeDiff, reduceCtorEq, Bool.false_eq_true, Nat.reduceLT, aAppend]
  refine hK _ _ ?_ _ (by simp -implicitDefEqProofs only [go_sem, ↓reduceIte, Nat.reduceEqDiff, Nat.reduceAdd, Nat.reduceSub, Nat.reduceMul, Nat.reduceLeDiff, reduceCtorEq, Bool.false_eq_true, Nat.reduceLT]; rfl); clear hK K1
  refine ACode.block ?_
  refine ACode.loop (fun m ρ H' => ∃ k : Nat, m = l.length - k ∧ k ≤ l.length ∧ findMod l name = findFrom k name (l.drop k) ∧ H' = H ∧ ρ = [(0, .slr b 2 0 l.length), (1, .fn 37 [] [.ip (str name)]), (7, int l.length), (8, int k)]) l.length ⟨0, rfl, Nat.zero_le _, rfl, rfl, rfl⟩ ?_
  rintro m ρ H' ⟨k, rfl, hkl, hs, rfl, rfl⟩
  simp -implicitDefEqProofs only [go_sem, ↓reduceIte, Nat.reduceEqDiff, Nat.reduceAdd, Nat.reduceSub, Nat.reduceMul, Nat.reduceLeDiff, reduceCtorEq, Bool.false_eq_true, Nat.reduceLT, aAppend]
  refine ACode.seq ?_
  refine ACode.region [0, 1, 7, 8, 9] rfl fun K1 hK => ?_
  simp -implicitDefEqProofs only [go_sem, ↓reduceIte, Nat.reduceEqDiff, Nat.reduceAdd, Nat.reduceSub, Nat.reduceMul, Nat.reduceLeDiff, reduceCtorEq, Bool.false_eq_true, Nat.reduceLT, aAppend]
  refine hK _ _ ?_ _ (by simp -implicitDefEqProofs only [go_sem, ↓reduceIte, Nat.reduceEqDiff, Nat.reduceAdd, Nat.reduceSub, Nat.reduceMul, Nat.reduceLeDiff, reduceCtorEq, Bool.false_eq_true, Nat.reduceLT]; rfl); clear hK K1
  refine ACode.seq ?_
  refine ACode.cond rfl (fun h => ?_) (fun h => ?_)
  · -- yes
    try simp only [decide_eq_true_eq] at h
    obtain ⟨x, hx, hd, -, -⟩ := at_drop l k (by omega)
    refine ACode.skip ?_
    refine ACode.seq ?_
    refine ACode.block ?_
    refine ACode.seq ?_
    refine ACode.region [0, 1, 5, 7, 8] rfl fun K1 hK => ?_
    simp -implicitDefEqProofs only [go_sem, ↓reduceIte, Nat.reduceEqDiff, Nat.reduceAdd, Nat.reduceSub, Nat.reduceMul, Nat.reduceLeDiff, reduceCtorEq, Bool.false_eq_true, Nat.reduceLT, aAppend]
    refine hK _ _ ?_ _ (by simp -implicitDefEqProofs only [go_sem, ↓reduceIte, Nat.reduceEqDiff, Nat.reduceAdd, Nat.reduceSub, Nat.reduceMul, Nat.reduceLeDiff, reduceCtorEq, Bool.false_eq_true, Nat.reduceLT]; rfl); clear hK K1
    refine ACode.seq ?_
    refine ACode.region [0, 1, 5, 7, 8, 16] rfl fun K1 hK => ?_
    simp -implicitDefEqProofs only [go_sem, ↓reduceIte, Nat.reduceEqDiff, Nat.reduceAdd, Nat.reduceSub, Nat.reduceMul, Nat.reduceLeDiff, reduceCtorEq, Bool.false_eq_true, Nat.reduceLT, aAppend, hb, hx, eMod]
    refine ⟨by omega, ?_⟩
    refine c37 x name _ _ ?_
    simp -implicitDefEqProofs only [go_sem, ↓reduceIte, Nat.reduceEqDiff, Nat.reduceAdd, Nat.reduceSub, Nat.reduceMul, Nat.reduceLeDiff, reduceCtorEq, Bool.false_eq_true, Nat.reduceLT, aAppend]
    refine hK _ _ ?_ _ (by simp -implicitDefEqProofs only [go_sem, ↓reduceIte, Nat.reduceEqDiff, Nat.reduceAdd, Nat.reduceSub, Nat.reduceMul, Nat.reduceLeDiff, reduceCtorEq, Bool.false_eq_true, Nat.reduceLT]; rfl); clear hK K1
    refine ACode.cond rfl (fun h => ?_) (fun h => ?_)
    · -- yes
      try simp only [decide_eq_true_eq] at h
      refine ACode.seq ?_
      refine ACode.region [4] rfl fun K1 hK => ?_
      simp -implicitDefEqProofs only [go_sem, ↓reduceIte, Nat.reduceEqDiff, Nat.reduceAdd, Nat.reduceSub, Nat.reduceMul, Nat.reduceLeDiff, reduceCtorEq, Bool.false_eq_true, Nat.reduceLT, aAppend]
      refine hK _ _ ?_ _ (by simp -implicitDefEqProofs only [go_sem, ↓reduceIte, Nat.reduceEqDiff, Nat.reduceAdd, Nat.reduceSub, Nat.reduceMul, Nat.reduceLeDiff, reduceCtorEq, Bool.false_eq_true, Nat.reduceLT]; rfl); clear hK K1
      refine ACode.ret ?_
      rw [hs, hd, findFrom, if_pos h] at hk
      exact hk
    · -- no
      try simp only [decide_eq_false_iff_not] at h
      refine ACode.skip ?_
      refine ACode.region [0, 1, 7, 8] rfl fun K1 hK => ?_
      simp -implicitDefEqProofs only [go_sem, ↓reduceIte, Nat.reduceEqDiff, Nat.reduceAdd, Nat.reduceSub, Nat.reduceMul, Nat.reduceLeDiff, reduceCtorEq, Bool.false_eq_true, Nat.reduceLT, aAppend]
      rw [wrap_i64 (by omega) (by omega)]
      refine hK _ _ ?_ _ (by simp -implicitDefEqProofs only [go_sem, ↓reduceIte, Nat.reduceEqDiff, Nat.reduceAdd, Nat.reduceSub, Nat.reduceMul, Nat.reduceLeDiff, reduceCtorEq, Bool.false_eq_true, Nat.reduceLT]; rfl); clear hK K1
      refine ⟨_, by omega, k + 1, rfl, by omega, ?_, rfl, ?_⟩
      · rw [hs, hd, findFrom, if_neg h]
      · simp
  · -- no
    try simp only [decide_eq_false_iff_not] at h
    refine ACode.exit ?_
    rw [hs, drop_end l k h, findFrom] at hk
    refine ACode.seq ?_
    refine ACode.region [4] rfl fun K1 hK => ?_
    simp -implicitDefEqProofs only [go_sem, ↓reduceIte, Nat.reduceEqDiff, Nat.reduceAdd, Nat.reduceSub, Nat.reduceMul, Nat.reduceLeDiff, reduceCtorEq, Bool.false_eq_true, Nat.reduceLT, aAppend]
    refine hK _ _ ?_ _ (by simp -implicitDefEqProofs only [go_sem, ↓reduceIte, Nat.reduceEqDiff, Nat.reduceAdd, Nat.reduceSub, Nat.reduceMul, Nat.reduceLeDiff, reduceCtorEq, Bool.false_eq_true, Nat.reduceLT]; rfl); clear hK K1
    refine ACode.ret ?_
    exact hk


/-- of a row of our own: whetstone/change.Find -/
theorem c25r (b : Nat) (l : List Mod) (name : List UInt8) (hl : l.length ≤ 140737488355328) (H : Heap) (hb : H b = some (.arr 2 (l.map eMod))) (K : AV → Heap → Prop) (hk : K (int (findMod l name)) H) : ACalls Try.prog 25 [.slr b 2 0 l.length, str name] H K := by
  refine ACalls.of_code Try.func25 rfl (by kernel_rfl) rfl (by simp [Try.ntmps25]) ?_
  rw [Try.ntmps25, Try.results25]; simp -implicitDefEqProofs only [go_sem, ↓reduceIte, Nat.reduceEqDiff, Nat.reduceAdd, Nat.reduceSub, Nat.reduceMul, Nat.reduceLeDiff, reduceCtorEq, Bool.false_eq_true, Nat.reduceLT, aAppend]
  refine ACode.seq ?_
  refine ACode.region [0, 3] rfl fun K1 hK => ?_
  simp -implicitDefEqProofs only [go_sem, ↓reduceIte, Nat.reduceEqDiff, Nat.reduceAdd, Nat.reduceSub, Nat.reduceMul, Nat.reduceLeDiff, reduceCtorEq, Bool.false_eq_true, Nat.reduceLT, aAppend]
  intro p hp
  have hpb : b ≠ p := fun e => by subst e; rw [hb] at hp; cases hp
  refine hK _ _ ?_ _ (by simp -implicitDefEqProofs only [go_sem, ↓reduceIte, Nat.reduceEqDiff, Nat.reduceAdd, Nat.reduceSub, Nat.reduceMul, Nat.reduceLeDiff, reduceCtorEq, Bool.false_eq_true, Nat.reduceLT]; rfl); clear hK K1
  refine ACode.freeze p (Heap.upd_same _ _ _) ?_
  simp -implicitDefEqProofs only [go_sem, ↓reduceIte, Nat.reduceEqDiff, Nat.reduceAdd, Nat.reduceSub, Nat.reduceMul, Nat.reduceLeDiff, reduceCtorEq, Bool.false_eq_true, Nat.reduceLT, aAppend, Heap.erase_upd_same _ p _ hp, hpb]
  refine ACode.seq ?_
  refine ACode.region [4] rfl fun K1 hK => ?_
  simp -implicitDefEqProofs only [go_sem, ↓reduceIte, Nat.reduceEqDiff, Nat.reduceAdd, Nat.reduceSub, Nat.reduceMul, Nat.reduceLeDiff, reduceCtorEq, Bool.false_eq_true, Nat.reduceLT, aAppend]
  refine c36r b l name hl _ hb _ ?_
  simp -implicitDefEqProofs only [go_sem, ↓reduceIte, Nat.reduceEqDiff, Nat.reduceAdd, Nat.reduceSub, Nat.reduceMul, Nat.reduceLeDiff, reduceCtorEq, Bool.false_eq_true, Nat.reduceLT, aAppend]
  refine hK _ _ ?_ _ (by simp -implicitDefEqProofs only [go_sem, ↓reduceIte, Nat.reduceEqDiff, Nat.reduceAdd, Nat.reduceSub, Nat.reduceMul, Nat.reduceLeDiff, reduceCtorEq, Bool.false_eq_true, Nat.reduceLT]; rfl); clear hK K1
  refine ACode.ret ?_
  exact hk



theorem findFrom_spec (name : List UInt8) : ∀ (l : List Mod) (k : Nat), findFrom k name l = -1 ∨ ∃ i m, findFrom k name l = ((k + i : Nat) : Int) ∧ l[i]? = some m ∧ m.Name = name
  | [], k => .inl rfl
  | m :: r, k => by
    unfold findFrom
    split
    · rename_i h; exact .inr ⟨0, m, rfl, rfl, h⟩
    · rcases findFrom_spec name r (k + 1) with h | ⟨i, m', h1, h2, h3⟩
      · exact .inl h
      · exact .inr ⟨i + 1, m', by rw [h1]; congr 1; omega, h2, h3⟩
theorem findMod_spec (l : List Mod) (name : List UInt8) (h : ¬ findMod l name < 0) : ∃ (i : Nat) (m : Mod), findMod l name = i ∧ l[i]? = some m ∧ m.Name = name := by
  rcases findFrom_spec name l 0 with h1 | ⟨i, m, h1, h2, h3⟩
  · rw [findMod, h1] at h; omega
  · exact ⟨i, m, by rw [findMod, h1]; simp, h2, h3⟩

def sumT : List Edit → Nat
  | [] => 0
  | x :: r => x.Text.length + sumT r
def sumC : List Change → Nat
  | [] => 0
  | c :: r => sumT c.Edits + sumC r

theorem sumT_mem {x : Edit} : ∀ {l : List Edit}, x ∈ l → x.Text.length ≤ sumT l
  | y :: r, h => by
    rw [sumT]
    rcases List.mem_cons.1 h with rfl | h
    · omega
    · have := sumT_mem h; omega

theorem app_length (s : List UInt8) : ∀ (l : List Edit) (last : Int) (k : Nat), soundFrom s.length last l = 0 → (k : Int) ≤ last + 1 → k ≤ s.length → (appFrom s k l).length + k ≤ s.length + sumT l
  | [], last, k, h, h1, h2 => by rw [appFrom, sumT, List.length_drop]; omega
  | x :: r, last, k, h, h1, h2 => by
    obtain ⟨d1, d2, d3, d4, d5, d6⟩ := sound_cons h
    have ih := app_length s r x.To x.To.toNat d6 (by omega) (by omega)
    rw [appFrom, sumT, List.length_append, List.length_append, List.length_drop, List.length_take]
    omega

def setText (out : List Mod) (i : Nat) (t : List UInt8) : List Mod := match out[i]? with
  | some m => out.set i ⟨m.Name, t⟩
  | none => out
def textAt (out : List Mod) (i : Nat) : List UInt8 := match out[i]? with
  | some m => m.Text
  | none => []
/-- modules behind changes; whose names were changed -/
def applyC (out : List Mod) (seen : List (List UInt8)) : List Change → List Mod × Int
  | [] => (out, 0)
  | c :: r => if findMod out c.Module < 0 then ([], 32) else if c.Module ∈ seen then ([], 4) else
      if (Apply (textAt out (findMod out c.Module).toNat) c.Edits).2 = 0 then applyC (setText out (findMod out c.Module).toNat (Apply (textAt out (findMod out c.Module).toNat) c.Edits).1) (seen ++ [c.Module]) r
      else ([], (Apply (textAt out (findMod out c.Module).toNat) c.Edits).2)

/-- no text grows beyond what memory takes -/
def Roomy (out : List Mod) (cs : List Change) : Prop := ∃ A, (∀ m ∈ out, m.Text.length ≤ A) ∧ A + sumC cs ≤ 140737488355328

theorem roomy_step {out : List Mod} {c : Change} {r : List Change} {i : Nat} {m : Mod} (h : Roomy out (c :: r)) (hm : out[i]? = some m) :
    m.Text.length ≤ 140737488355328 ∧ (∀ x ∈ c.Edits, x.Text.length ≤ 140737488355328) ∧ (Sound c.Edits m.Text.length = 0 → (appFrom m.Text 0 c.Edits).length ≤ 140737488355328 ∧ Roomy (out.set i ⟨m.Name, appFrom m.Text 0 c.Edits⟩) r) := by
  obtain ⟨A, h1, h2⟩ := h
  rw [sumC] at h2
  have hmt := h1 m (List.mem_of_getElem? hm)
  refine ⟨by omega, fun x hx => by have := sumT_mem hx; omega, fun hs => ?_⟩
  rw [Sound] at hs
  split at hs
  · omega
  · have := app_length m.Text c.Edits (-1) 0 hs (by omega) (by omega)
    refine ⟨by omega, A + sumT c.Edits, fun y hy => ?_, by omega⟩
    rcases List.mem_or_eq_of_mem_set hy with hy | rfl
    · have := h1 y hy; omega
    · simp only; omega

/-- whetstone/whetstoneref17.Apply: to some modules -/
theorem c28p (l : List Mod) (cs : List Change) (h0 : l ≠ []) (hl : l.length ≤ 1000000) (hcl : cs.length ≤ 1000000) (hce : ∀ c ∈ cs, c.Edits.length ≤ 1000000) (hroom : Roomy l cs) (H : Heap) (K : AV → Heap → Prop)
    (hk : K (.tup [.sl ((applyC l [] cs).1.map eMod), int (applyC l [] cs).2]) H) : ACalls Try.prog 28 [.sl (l.map eMod), .sl (cs.map eChange)] H K := by
  refine ACalls.of_code Try.func28 rfl (by kernel_rfl) rfl (by simp [Try.ntmps28]) ?_
  rw [Try.ntmps28, Try.results28]; simp -implicitDefEqProofs only [go_sem, ↓reduceIte, Nat.reduceEqDiff, Nat.reduceAdd, Nat.reduceSub, Nat.reduceMul, Nat.reduceLeDiff, reduceCtorEq, Bool.false_eq_true, Nat.reduceLT, aAppend]
  refine ACode.seq ?_
  refine ACode.region [0, 1] rfl fun K1 hK => ?_
  simp -implicitDefEqProofs only [go_sem, ↓reduceIte, Nat.reduceEqDiff, Nat.reduceAdd, Nat.reduceSub, Nat.reduceMul, Nat.reduceLeDiff, reduceCtorEq, Bool.false_eq_true, Nat.reduceLT, aAppend]
  refine hK _ _ ?_ _ (by simp -implicitDefEqProofs only [go_sem, ↓reduceIte, Nat.reduceEqDiff, Nat.reduceAdd, Nat.reduceSub, Nat.reduceMul, Nat.reduceLeDiff, reduceCtorEq, Bool.false_eq_true, Nat.reduceLT]; rfl); clear hK K1
  refine ACode.seq ?_
  refine ACode.region [0, 1, 6] rfl fun K1 hK => ?_
  simp -implicitDefEqProofs only [go_sem, ↓reduceIte, Nat.reduceEqDiff, Nat.reduceAdd, Nat.reduceSub, Nat.reduceMul, Nat.reduceLeDiff, reduceCtorEq, Bool.false_eq_true, Nat.reduceLT, aAppend]
  refine hK _ _ ?_ _ (by simp -implicitDefEqProofs only [go_sem, ↓reduceIte, Nat.reduceEqDiff, Nat.reduceAdd, Nat.reduceSub, Nat.reduceMul, Nat.reduceLeDiff, reduceCtorEq, Bool.false_eq_true, Nat.reduceLT]; rfl); clear hK K1
  refine ACode.seq ?_
  refine ACode.region [1, 6] rfl fun K1 hK => ?_
  simp -implicitDefEqProofs only [go_sem, ↓reduceIte, Nat.reduceEqDiff, Nat.reduceAdd, Nat.reduceSub, Nat.reduceMul, Nat.reduceLeDiff, reduceCtorEq, Bool.false_eq_true, Nat.reduceLT]
  refine AppSt.append AppSt.nil el22 ze55 ni22 (by omega) (by omega) rfl (eMod_sizes l) (by simp; omega) fun x H1 hst => ?_
  simp -implicitDefEqProofs only [go_sem, ↓reduceIte, Nat.reduceEqDiff, Nat.reduceAdd, Nat.reduceSub, Nat.reduceMul, Nat.reduceLeDiff, reduceCtorEq, Bool.false_eq_true, Nat.reduceLT, aAppend]
  refine hK _ _ ?_ _ (by simp -implicitDefEqProofs only [go_sem, ↓reduceIte, Nat.reduceEqDiff, Nat.reduceAdd, Nat.reduceSub, Nat.reduceMul, Nat.reduceLeDiff, reduceCtorEq, Bool.false_eq_true, Nat.reduceLT]; rfl); clear hK K1
  obtain ⟨hle, ⟨hn, rfl⟩ | ⟨b, hb, hb1, rfl⟩⟩ := hst
  · exact absurd (by simpa using hn) h0
  rw [List.nil_append, List.length_map]
  rw [List.nil_append] at hb1
  have hdrop : ∀ r, Heap.le H (H1.upd b r) := fun r c q hc => by
    have : c ≠ b := fun e => by subst e; rw [hb] at hc; cases hc
    rw [Heap.upd_other _ _ this]; exact hle c q hc
  refine ACode.seq ?_
  refine ACode.seq ?_
  refine ACode.region [1, 6, 7] rfl fun K1 hK => ?_
  simp -implicitDefEqProofs only [go_sem, ↓reduceIte, Nat.reduceEqDiff, Nat.reduceAdd, Nat.reduceSub, Nat.reduceMul, Nat.reduceLeDiff, reduceCtorEq, Bool.false_eq_true, Nat.reduceLT, aAppend]
  refine hK _ _ ?_ _ (by simp -implicitDefEqProofs only [go_sem, ↓reduceIte, Nat.reduceEqDiff, Nat.reduceAdd, Nat.reduceSub, Nat.reduceMul, Nat.reduceLeDiff, reduceCtorEq, Bool.false_eq_true, Nat.reduceLT]; rfl); clear hK K1
  refine ACode.block ?_
  refine ACode.loop (fun m ρ H' => ∃ (k : Nat) (out : List Mod), m = cs.length - k ∧ k ≤ cs.length ∧ out.length = l.length ∧ Roomy out (cs.drop k) ∧ applyC l [] cs = applyC out ((cs.take k).map (·.Module)) (cs.drop k) ∧ H' = H1.upd b (.arr 2 (out.map eMod)) ∧ ρ = [(1, .sl (cs.map eChange)), (6, .slr b 2 0 l.length), (7, int k)]) cs.length ⟨0, l, rfl, Nat.zero_le _, rfl, hroom, rfl, (Heap.upd_id hb1).symm, rfl⟩ ?_
  rintro m ρ H' ⟨k, out, rfl, hkl, hlen, hro, hap, rfl, rfl⟩
  simp -implicitDefEqProofs only [go_sem, ↓reduceIte, Nat.reduceEqDiff, Nat.reduceAdd, Nat.reduceSub, Nat.reduceMul, Nat.reduceLeDiff, reduceCtorEq, Bool.false_eq_true, Nat.reduceLT, aAppend]
  refine ACode.seq ?_
  refine ACode.seq ?_
  refine ACode.region [1, 6, 7, 18] rfl fun K1 hK => ?_
  simp -implicitDefEqProofs only [go_sem, ↓reduceIte, Nat.reduceEqDiff, Nat.reduceAdd, Nat.reduceSub, Nat.reduceMul, Nat.reduceLeDiff, reduceCtorEq, Bool.false_eq_true, Nat.reduceLT, aAppend]
  refine hK _ _ ?_ _ (by simp -implicitDefEqProofs only [go_sem, ↓reduceIte, Nat.reduceEqDiff, Nat.reduceAdd, Nat.reduceSub, Nat.reduceMul, Nat.reduceLeDiff, reduceCtorEq, Bool.false_eq_true, Nat.reduceLT]; rfl); clear hK K1
  refine ACode.cond rfl (fun h => ?_) (fun h => ?_)
  · -- yes
    try simp only [decide_eq_true_eq] at h
    obtain ⟨c, hx, hd, hm, ht⟩ := at_drop cs k (by omega)
    rw [hd] at hro
    rw [hd, applyC] at hap
    have hf := fun K => c40r b out c.Module (by omega) (H1.upd b (.arr 2 (out.map eMod))) (Heap.upd_same _ _ _) K
    rw [hlen] at hf
    refine ACode.skip ?_
    refine ACode.seq ?_
    refine ACode.block ?_
    refine ACode.seq ?_
    refine ACode.region [1, 6, 7, 8] rfl fun K1 hK => ?_
    simp -implicitDefEqProofs only [go_sem, ↓reduceIte, Nat.reduceEqDiff, Nat.reduceAdd, Nat.reduceSub, Nat.reduceMul, Nat.reduceLeDiff, reduceCtorEq, Bool.false_eq_true, Nat.reduceLT, aAppend, hx, eChange]
    refine hf _ ?_
    simp -implicitDefEqProofs only [go_sem, ↓reduceIte, Nat.reduceEqDiff, Nat.reduceAdd, Nat.reduceSub, Nat.reduceMul, Nat.reduceLeDiff, reduceCtorEq, Bool.false_eq_true, Nat.reduceLT, aAppend]
    refine hK _ _ ?_ _ (by simp -implicitDefEqProofs only [go_sem, ↓reduceIte, Nat.reduceEqDiff, Nat.reduceAdd, Nat.reduceSub, Nat.reduceMul, Nat.reduceLeDiff, reduceCtorEq, Bool.false_eq_true, Nat.reduceLT]; rfl); clear hK K1
    refine ACode.seq ?_
    refine ACode.seq ?_
    refine ACode.region [1, 6, 7, 8, 29] rfl fun K1 hK => ?_
    simp -implicitDefEqProofs only [go_sem, ↓reduceIte, Nat.reduceEqDiff, Nat.reduceAdd, Nat.reduceSub, Nat.reduceMul, Nat.reduceLeDiff, reduceCtorEq, Bool.false_eq_true, Nat.reduceLT, aAppend]
    refine hK _ _ ?_ _ (by simp -implicitDefEqProofs only [go_sem, ↓reduceIte, Nat.reduceEqDiff, Nat.reduceAdd, Nat.reduceSub, Nat.reduceMul, Nat.reduceLeDiff, reduceCtorEq, Bool.false_eq_true, Nat.reduceLT]; rfl); clear hK K1
    refine ACode.cond rfl (fun h => ?_) (fun h => ?_)
    · -- yes
      try simp only [decide_eq_true_eq] at h
      rw [hap, if_pos h] at hk
      refine ACode.seq ?_
      refine ACode.region [4, 5] rfl fun K1 hK => ?_
      simp -implicitDefEqProofs only [go_sem, ↓reduceIte, Nat.reduceEqDiff, Nat.reduceAdd, Nat.reduceSub, Nat.reduceMul, Nat.reduceLeDiff, reduceCtorEq, Bool.false_eq_true, Nat.reduceLT, aAppend]
      refine hK _ _ ?_ _ (by simp -implicitDefEqProofs only [go_sem, ↓reduceIte, Nat.reduceEqDiff, Nat.reduceAdd, Nat.reduceSub, Nat.reduceMul, Nat.reduceLeDiff, reduceCtorEq, Bool.false_eq_true, Nat.reduceLT]; rfl); clear hK K1
      refine ACode.drop ?_ (hdrop _)
      refine ACode.soft 4 ?_
      simp -implicitDefEqProofs only [go_sem, ↓reduceIte, Nat.reduceEqDiff, Nat.reduceAdd, Nat.reduceSub, Nat.reduceMul, Nat.reduceLeDiff, reduceCtorEq, Bool.false_eq_true, Nat.reduceLT, aAppend, AV.soft]
      refine ACode.ret ?_
      exact hk
    · -- no
      try simp only [decide_eq_false_iff_not] at h
      rw [if_neg h] at hap
      obtain ⟨i, mm, hi, hmi, hmn⟩ := findMod_spec out c.Module h
      have hil : i < out.length := (List.getElem?_eq_some_iff.1 hmi).1
      rw [hi] at hap ⊢
      rw [Int.toNat_natCast] at hap
      refine ACode.skip ?_
      refine ACode.seq ?_
      refine ACode.seq ?_
      refine ACode.region [1, 6, 7, 8, 9] rfl fun K1 hK => ?_
      simp -implicitDefEqProofs only [go_sem, ↓reduceIte, Nat.reduceEqDiff, Nat.reduceAdd, Nat.reduceSub, Nat.reduceMul, Nat.reduceLeDiff, reduceCtorEq, Bool.false_eq_true, Nat.reduceLT, aAppend]
      refine hK _ _ ?_ _ (by simp -implicitDefEqProofs only [go_sem, ↓reduceIte, Nat.reduceEqDiff, Nat.reduceAdd, Nat.reduceSub, Nat.reduceMul, Nat.reduceLeDiff, reduceCtorEq, Bool.false_eq_true, Nat.reduceLT]; rfl); clear hK K1
      refine ACode.block ?_
      refine ACode.loop (fun m ρ H' => ∃ q : Nat, m = k - q ∧ q ≤ k ∧ (∀ (u : Nat) c', u < q → cs[u]? = some c' → c'.Module ≠ c.Module) ∧ H' = H1.upd b (.arr 2 (out.map eMod)) ∧ ρ = [(1, .sl (cs.map eChange)), (6, .slr b 2 0 l.length), (7, int k), (8, int i), (9, int q)]) k ⟨0, rfl, Nat.zero_le _, fun u c' h => absurd h (by omega), rfl, rfl⟩ ?_
      rintro m ρ H' ⟨q, rfl, hq, hno, rfl, rfl⟩
      simp -implicitDefEqProofs only [go_sem, ↓reduceIte, Nat.reduceEqDiff, Nat.reduceAdd, Nat.reduceSub, Nat.reduceMul, Nat.reduceLeDiff, reduceCtorEq, Bool.false_eq_true, Nat.reduceLT, aAppend]
      refine ACode.seq ?_
      refine ACode.seq ?_
      refine ACode.region [1, 6, 7, 8, 9, 32] rfl fun K1 hK => ?_
      simp -implicitDefEqProofs only [go_sem, ↓reduceIte, Nat.reduceEqDiff, Nat.reduceAdd, Nat.reduceSub, Nat.reduceMul, Nat.reduceLeDiff, reduceCtorEq, Bool.false_eq_true, Nat.reduceLT, aAppend]
      refine hK _ _ ?_ _ (by simp -implicitDefEqProofs only [go_sem, ↓reduceIte, Nat.reduceEqDiff, Nat.reduceAdd, Nat.reduceSub, Nat.reduceMul, Nat.reduceLeDiff, reduceCtorEq, Bool.false_eq_true, Nat.reduceLT]; rfl); clear hK K1
      refine ACode.cond rfl (fun h => ?_) (fun h => ?_)
      · -- yes
        try simp only [decide_eq_true_eq] at h
        obtain ⟨c2, hx2, -, -, -⟩ := at_drop cs q (by omega)
        refine ACode.skip ?_
        refine ACode.seq ?_
        refine ACode.block ?_
        refine ACode.seq ?_
        refine ACode.region_draw [1, 6, 7, 8, 9, 45] [(0, 0), (1, 0), (2, 0), (3, 0), (5, 0), (6, 0), (7, 0), (8, 0), (4, 1), (9, 1), (10, 0)] (by kernel_rfl) (by kernel_rfl) rfl (by kernel_rfl) fun K1 hK => ?_
        simp -implicitDefEqProofs only [go_sem, ↓reduceIte, Nat.reduceEqDiff, Nat.reduceAdd, Nat.reduceSub, Nat.reduceMul, Nat.reduceLeDiff, reduceCtorEq, Bool.false_eq_true, Nat.reduceLT, aAppend, hx, hx2, eChange]
        refine hK _ _ ?_ _ (by simp -implicitDefEqProofs only [go_sem, ↓reduceIte, Nat.reduceEqDiff, Nat.reduceAdd, Nat.reduceSub, Nat.reduceMul, Nat.reduceLeDiff, reduceCtorEq, Bool.false_eq_true, Nat.reduceLT]; rfl); clear hK K1
        refine ACode.cond rfl (fun h => ?_) (fun h => ?_)
        · -- yes
          try simp only [decide_eq_true_eq] at h
          have hin : c.Module ∈ (cs.take k).map (·.Module) := by
            rw [← h]
            refine List.mem_map.2 ⟨c2, ?_, rfl⟩
            refine List.mem_of_getElem? (i := q) ?_
            rw [List.getElem?_take, if_pos (by omega), hx2]
          rw [if_pos hin] at hap
          rw [hap] at hk
          refine ACode.seq ?_
          refine ACode.region [4, 5] rfl fun K1 hK => ?_
          simp -implicitDefEqProofs only [go_sem, ↓reduceIte, Nat.reduceEqDiff, Nat.reduceAdd, Nat.reduceSub, Nat.reduceMul, Nat.reduceLeDiff, reduceCtorEq, Bool.false_eq_true, Nat.reduceLT, aAppend]
          refine hK _ _ ?_ _ (by simp -implicitDefEqProofs only [go_sem, ↓reduceIte, Nat.reduceEqDiff, Nat.reduceAdd, Nat.reduceSub, Nat.reduceMul, Nat.reduceLeDiff, reduceCtorEq, Bool.false_eq_true, Nat.reduceLT]; rfl); clear hK K1
          refine ACode.drop ?_ (hdrop _)
          refine ACode.soft 4 ?_
          simp -implicitDefEqProofs only [go_sem, ↓reduceIte, Nat.reduceEqDiff, Nat.reduceAdd, Nat.reduceSub, Nat.reduceMul, Nat.reduceLeDiff, reduceCtorEq, Bool.false_eq_true, Nat.reduceLT, aAppend, AV.soft]
          refine ACode.ret ?_
          exact hk
        · -- no
          try simp only [decide_eq_false_iff_not] at h
          have hne := h
          refine ACode.skip ?_
          refine ACode.region [1, 6, 7, 8, 9] rfl fun K1 hK => ?_
          simp -implicitDefEqProofs only [go_sem, ↓reduceIte, Nat.reduceEqDiff, Nat.reduceAdd, Nat.reduceSub, Nat.reduceMul, Nat.reduceLeDiff, reduceCtorEq, Bool.false_eq_true, Nat.reduceLT, aAppend]
          rw [wrap_i64 (by omega) (by omega)]
          refine hK _ _ ?_ _ (by simp -implicitDefEqProofs only [go_sem, ↓reduceIte, Nat.reduceEqDiff, Nat.reduceAdd, Nat.reduceSub, Nat.reduceMul, Nat.reduceLeDiff, reduceCtorEq, Bool.false_eq_true, Nat.reduceLT]; rfl); clear hK K1
          refine ⟨_, by omega, q + 1, rfl, by omega, fun u c' hu hc' => ?_, rfl, by simp <;> rfl⟩
          rcases Nat.lt_or_ge u q with hu' | hu'
          · exact hno u c' hu' hc'
          · have : u = q := by omega
            subst this
            rw [hx2] at hc'
            cases hc'
            exact hne
      · -- no
        try simp only [decide_eq_false_iff_not] at h
        refine ACode.exit ?_
        have hnin : ¬ c.Module ∈ (cs.take k).map (·.Module) := fun hin => by
          obtain ⟨c', hc', he⟩ := List.mem_map.1 hin
          obtain ⟨u, hu, hu2⟩ := List.mem_iff_getElem.1 hc'
          have hu3 : (cs.take k)[u]? = some c' := by rw [List.getElem?_eq_getElem hu, hu2]
          rw [List.getElem?_take] at hu3
          split at hu3
          · exact hno u c' (by omega) hu3 he
          · cases hu3
        rw [if_neg hnin] at hap
        have htx : textAt out i = mm.Text := by rw [textAt, hmi]
        have hset : ∀ t, setText out i t = out.set i ⟨mm.Name, t⟩ := fun t => by rw [setText, hmi]
        rw [htx, hset] at hap
        obtain ⟨r1, r2, r3⟩ := roomy_step hro hmi
        have hcE := hce c hm
        have call : ∀ (H : Heap) (K : AV → Heap → Prop), K (.tup [str (Apply mm.Text c.Edits).1, int (Apply mm.Text c.Edits).2]) H → ACalls Try.prog 41 [str mm.Text, .sl (c.Edits.map eEdit)] H K := fun H K hk => by
          exact c41 mm.Text c.Edits r1 (by omega) r2 (fun hsd => (r3 hsd).1) H K hk
        refine ACode.seq ?_
        refine ACode.region_draw [1, 6, 7, 8, 10, 11] [(0, 0), (1, 0), (2, 0), (3, 0), (5, 0), (6, 0), (7, 0), (8, 0), (4, 1), (9, 1), (10, 2), (11, 0), (12, 0), (13, 0), (14, 0), (15, 0)] (by kernel_rfl) (by kernel_rfl) rfl (by kernel_rfl) fun K1 hK => ?_
        simp -implicitDefEqProofs only [go_sem, ↓reduceIte, Nat.reduceEqDiff, Nat.reduceAdd, Nat.reduceSub, Nat.reduceMul, Nat.reduceLeDiff, reduceCtorEq, Bool.false_eq_true, Nat.reduceLT, aAppend, Heap.upd_same, hmi, hx, eMod, eChange]
        refine ⟨by omega, ?_⟩
        refine call _ _ ?_
        simp -implicitDefEqProofs only [go_sem, ↓reduceIte, Nat.reduceEqDiff, Nat.reduceAdd, Nat.reduceSub, Nat.reduceMul, Nat.reduceLeDiff, reduceCtorEq, Bool.false_eq_true, Nat.reduceLT, aAppend]
        refine hK _ _ ?_ _ (by simp -implicitDefEqProofs only [go_sem, ↓reduceIte, Nat.reduceEqDiff, Nat.reduceAdd, Nat.reduceSub, Nat.reduceMul, Nat.reduceLeDiff, reduceCtorEq, Bool.false_eq_true, Nat.reduceLT]; rfl); clear hK K1
        refine ACode.seq ?_
        refine ACode.seq ?_
        refine ACode.region [1, 6, 7, 8, 10, 11, 61] rfl fun K1 hK => ?_
        simp -implicitDefEqProofs only [go_sem, ↓reduceIte, Nat.reduceEqDiff, Nat.reduceAdd, Nat.reduceSub, Nat.reduceMul, Nat.reduceLeDiff, reduceCtorEq, Bool.false_eq_true, Nat.reduceLT, aAppend]
        refine hK _ _ ?_ _ (by simp -implicitDefEqProofs only [go_sem, ↓reduceIte, Nat.reduceEqDiff, Nat.reduceAdd, Nat.reduceSub, Nat.reduceMul, Nat.reduceLeDiff, reduceCtorEq, Bool.false_eq_true, Nat.reduceLT]; rfl); clear hK K1
        refine ACode.cond rfl (fun h => ?_) (fun h => ?_)
        · -- yes
          try simp only [decide_eq_true_eq] at h
          have he : ¬ (Apply mm.Text c.Edits).2 = 0 := by simpa using h
          rw [if_neg he] at hap
          rw [hap] at hk
          refine ACode.seq ?_
          refine ACode.region [4, 5] rfl fun K1 hK => ?_
          simp -implicitDefEqProofs only [go_sem, ↓reduceIte, Nat.reduceEqDiff, Nat.reduceAdd, Nat.reduceSub, Nat.reduceMul, Nat.reduceLeDiff, reduceCtorEq, Bool.false_eq_true, Nat.reduceLT, aAppend]
          refine hK _ _ ?_ _ (by simp -implicitDefEqProofs only [go_sem, ↓reduceIte, Nat.reduceEqDiff, Nat.reduceAdd, Nat.reduceSub, Nat.reduceMul, Nat.reduceLeDiff, reduceCtorEq, Bool.false_eq_true, Nat.reduceLT]; rfl); clear hK K1
          refine ACode.drop ?_ (hdrop _)
          refine ACode.soft 4 ?_
          simp -implicitDefEqProofs only [go_sem, ↓reduceIte, Nat.reduceEqDiff, Nat.reduceAdd, Nat.reduceSub, Nat.reduceMul, Nat.reduceLeDiff, reduceCtorEq, Bool.false_eq_true, Nat.reduceLT, aAppend, AV.soft]
          refine ACode.ret ?_
          exact hk
        · -- no
          try simp only [decide_eq_false_iff_not] at h
          have he : (Apply mm.Text c.Edits).2 = 0 := by simpa using h
          rw [if_pos he] at hap
          have hsd : Sound c.Edits mm.Text.length = 0 := by
            rw [Apply] at he
            split at he
            · assumption
            · exact he
          have hA1 : (Apply mm.Text c.Edits).1 = appFrom mm.Text 0 c.Edits := by rw [Apply, if_pos hsd]
          rw [hA1] at hap ⊢
          refine ACode.skip ?_
          refine ACode.region [1, 6, 7] rfl fun K1 hK => ?_
          simp -implicitDefEqProofs only [go_sem, ↓reduceIte, Nat.reduceEqDiff, Nat.reduceAdd, Nat.reduceSub, Nat.reduceMul, Nat.reduceLeDiff, reduceCtorEq, Bool.false_eq_true, Nat.reduceLT, aAppend, Heap.upd_same, hmi, eMod]
          refine ⟨by omega, ?_⟩
          refine hK _ _ ?_ _ (by simp -implicitDefEqProofs only [go_sem, ↓reduceIte, Nat.reduceEqDiff, Nat.reduceAdd, Nat.reduceSub, Nat.reduceMul, Nat.reduceLeDiff, reduceCtorEq, Bool.false_eq_true, Nat.reduceLT]; rfl); clear hK K1
          refine ACode.region [1, 6, 7] rfl fun K1 hK => ?_
          simp -implicitDefEqProofs only [go_sem, ↓reduceIte, Nat.reduceEqDiff, Nat.reduceAdd, Nat.reduceSub, Nat.reduceMul, Nat.reduceLeDiff, reduceCtorEq, Bool.false_eq_true, Nat.reduceLT, aAppend]
          rw [wrap_i64 (by omega) (by omega)]
          refine hK _ _ ?_ _ (by simp -implicitDefEqProofs only [go_sem, ↓reduceIte, Nat.reduceEqDiff, Nat.reduceAdd, Nat.reduceSub, Nat.reduceMul, Nat.reduceLeDiff, reduceCtorEq, Bool.false_eq_true, Nat.reduceLT]; rfl); clear hK K1
          refine ⟨_, by omega, k + 1, out.set i ⟨mm.Name, appFrom mm.Text 0 c.Edits⟩, rfl, by omega, by rw [List.length_set]; exact hlen, (r3 hsd).2, ?_, ?_, by simp <;> rfl⟩
          · rw [hap, ht]; simp
          · rw [List.map_set]; rfl
  · -- no
    try simp only [decide_eq_false_iff_not] at h
    refine ACode.exit ?_
    rw [drop_end cs k h, applyC] at hap
    rw [hap] at hk
    refine ACode.seq ?_
    refine ACode.region [4, 5] rfl fun K1 hK => ?_
    simp -implicitDefEqProofs only [go_sem, ↓reduceIte, Nat.reduceEqDiff, Nat.reduceAdd, Nat.reduceSub, Nat.reduceMul, Nat.reduceLeDiff, reduceCtorEq, Bool.false_eq_true, Nat.reduceLT, aAppend]
    refine hK _ _ ?_ _ (by simp -implicitDefEqProofs only [go_sem, ↓reduceIte, Nat.reduceEqDiff, Nat.reduceAdd, Nat.reduceSub, Nat.reduceMul, Nat.reduceLeDiff, reduceCtorEq, Bool.false_eq_true, Nat.reduceLT]; rfl); clear hK K1
    refine AppSt.done (H := H) 4 (s := 2) (l := out.map eMod) ⟨hdrop _, .inr ⟨b, hb, Heap.upd_same _ _ _, by rw [List.length_map, hlen]; rfl⟩⟩ rfl ?_
    simp -implicitDefEqProofs only [go_sem, ↓reduceIte, Nat.reduceEqDiff, Nat.reduceAdd, Nat.reduceSub, Nat.reduceMul, Nat.reduceLeDiff, reduceCtorEq, Bool.false_eq_true, Nat.reduceLT, aAppend]
    refine ACode.ret ?_
    exact hk


end Go.Flow

