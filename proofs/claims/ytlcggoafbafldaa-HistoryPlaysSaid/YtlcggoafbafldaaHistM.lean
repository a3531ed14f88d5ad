/-
  Histories: what they hold; notes. No condition.
-/
import Derived.Test.YtlcggoafbafldaaHistL
set_option linter.unusedVariables false
set_option linter.unusedSimpArgs false
set_option maxRecDepth 20000
namespace Go.Flow
open Go Go.Proofs

/-- a slice of our own, or nil: it shows a list; behind it there may be more places -/
def Stk {α : Type} (e : α → AV) (s N : Nat) (H : Heap) (l : List α) (x : AV) : Prop :=
  (l = [] ∧ x = .v (.slice none 0 0)) ∨ ∃ (b i : Nat) (row : List α), H b = some (.arr s (row.map e)) ∧ x = .slr b s i (i + l.length) ∧ i + l.length ≤ row.length ∧ (row.drop i).take l.length = l ∧ row.length ≤ N

theorem Stk.le {α : Type} {e : α → AV} {s N : Nat} {H H' : Heap} {l : List α} {x : AV} (h : Stk e s N H l x) (hle : Heap.le H H') : Stk e s N H' l x :=
  h.imp id fun ⟨b, i, row, h1, h2⟩ => ⟨b, i, row, hle _ _ h1, h2⟩

theorem Stk.get {α : Type} {row l : List α} {i k : Nat} (h : (row.drop i).take l.length = l) (hk : k < l.length) : row[i + k]? = l[k]? := by
  have h1 : ((row.drop i).take l.length)[k]? = l[k]? := by rw [h]
  rw [List.getElem?_take, if_pos hk, List.getElem?_drop] at h1
  exact h1

theorem c29k {l : List Step} {N : Nat} (hN : N ≤ 100000) {x : AV} {H : Heap} (h : Stk eStep 3 N H l x) (K : AV → Heap → Prop) (hk : K (.sl ((l.map (·.note)).map str)) H) : ACalls Try.prog 29 [x] H K := by
  rcases h with ⟨rfl, rfl⟩ | ⟨b, i, row, h1, rfl, h2, h3, h4⟩
  · exact c29n H K hk
  · refine c29 b i (i + l.length) row (by omega) h2 (by omega) H h1 K ?_
    rw [List.drop_take, show i + l.length - i = l.length by omega, h3]; exact hk

theorem c20k {l : List State} {N : Nat} (hN : N ≤ 100000) {x : AV} {H : Heap} (h : Stk eState 2 N H l x) (K : AV → Heap → Prop) (hk : K (.sl ((l.map (·.Note)).map str)) H) : ACalls Try.prog 20 [x] H K := by
  rcases h with ⟨rfl, rfl⟩ | ⟨b, i, row, h1, rfl, h2, h3, h4⟩
  · exact c20n H K hk
  · refine c20 b i (i + l.length) row (by omega) h2 (by omega) H h1 K ?_
    rw [List.drop_take, show i + l.length - i = l.length by omega, h3]; exact hk

/-- whetstone/history.History.Notes -/
theorem c15 (b : Nat) (now : List Mod) (past next : List Step) (p q : AV) (N : Nat) (hN : N ≤ 100000) (H : Heap) (hb : H b = some (.box (.agg [.sl (now.map eMod), p, q]))) (hp : Stk eStep 3 N H past p) (hq : Stk eStep 3 N H next q)
    (K : AV → Heap → Prop) (hk : K (.tup [.sl ((past.map (·.note)).map str), .sl ((next.map (·.note)).map str)]) H) : ACalls Try.prog 15 [.bp b 0 []] H K := by
  refine ACalls.of_code Try.func15 rfl (by kernel_rfl) rfl (by simp [Try.ntmps15]) ?_
  rw [Try.ntmps15, Try.results15]; simp -implicitDefEqProofs only [go_sem, ↓reduceIte, Nat.reduceEqDiff, Nat.reduceAdd, Nat.reduceSub, Nat.reduceMul, Nat.reduceLeDiff, reduceCtorEq, Bool.false_eq_true, Nat.reduceLT, aAppend]
  refine ACode.seq ?_
  refine ACode.region [0] rfl fun K1 hK => ?_
  simp -implicitDefEqProofs only [go_sem, ↓reduceIte, Nat.reduceEqDiff, Nat.reduceAdd, Nat.reduceSub, Nat.reduceMul, Nat.reduceLeDiff, reduceCtorEq, Bool.false_eq_true, Nat.reduceLT, aAppend]
  refine hK _ _ ?_ _ (by simp -implicitDefEqProofs only [go_sem, ↓reduceIte, Nat.reduceEqDiff, Nat.reduceAdd, Nat.reduceSub, Nat.reduceMul, Nat.reduceLeDiff, reduceCtorEq, Bool.false_eq_true, Nat.reduceLT]; rfl); clear hK K1
  refine ACode.seq ?_
  refine ACode.seq ?_
  refine ACode.region [0, 5] rfl fun K1 hK => ?_
  simp -implicitDefEqProofs only [go_sem, ↓reduceIte, Nat.reduceEqDiff, Nat.reduceAdd, Nat.reduceSub, Nat.reduceMul, Nat.reduceLeDiff, reduceCtorEq, Bool.false_eq_true, Nat.reduceLT, aAppend]
  refine hK _ _ ?_ _ (by simp -implicitDefEqProofs only [go_sem, ↓reduceIte, Nat.reduceEqDiff, Nat.reduceAdd, Nat.reduceSub, Nat.reduceMul, Nat.reduceLeDiff, reduceCtorEq, Bool.false_eq_true, Nat.reduceLT]; rfl); clear hK K1
  refine ACode.cond rfl (fun h => ?_) (fun h => ?_)
  · -- yes
    cases h
  · -- no
    try simp only [decide_eq_false_iff_not] at h
    refine ACode.skip ?_
    refine ACode.seq ?_
    refine ACode.draw_cut [2, 3] [(0, 0), (1, 0), (2, 0), (5, 0), (6, 0), (7, 0), (3, 1), (4, 3), (8, 1), (9, 2), (10, 0), (11, 0)] (fun ρ' H' => H' = H ∧ ρ' = [(2, .sl ((past.map (·.note)).map str)), (3, .sl ((next.map (·.note)).map str))]) (by kernel_rfl) (by kernel_rfl) rfl (by kernel_rfl) (fun K1 hK => ?_) ?_
    · have hp2 := hp
      have hq2 := hq
      rcases hp2 with ⟨-, rfl⟩ | ⟨pb, pi, prow, -, rfl, -⟩ <;> rcases hq2 with ⟨-, rfl⟩ | ⟨qb, qi, qrow, -, rfl, -⟩
      all_goals
        simp -implicitDefEqProofs only [go_sem, ↓reduceIte, Nat.reduceEqDiff, Nat.reduceAdd, Nat.reduceSub, Nat.reduceMul, Nat.reduceLeDiff, reduceCtorEq, Bool.false_eq_true, Nat.reduceLT, aAppend, hb]
        refine ⟨.sl ((past.map (·.note)).map str), fun G hG K' hk' => c29k hN (hp.le hG) K' hk', ?_⟩
        simp -implicitDefEqProofs only [go_sem, ↓reduceIte, Nat.reduceEqDiff, Nat.reduceAdd, Nat.reduceSub, Nat.reduceMul, Nat.reduceLeDiff, reduceCtorEq, Bool.false_eq_true, Nat.reduceLT, aAppend, bHold_eq, hb]
        refine c29k hN hq _ ?_
        simp -implicitDefEqProofs only [go_sem, ↓reduceIte, Nat.reduceEqDiff, Nat.reduceAdd, Nat.reduceSub, Nat.reduceMul, Nat.reduceLeDiff, reduceCtorEq, Bool.false_eq_true, Nat.reduceLT, aAppend]
        refine hK _ _ ⟨rfl, rfl⟩ _ (by simp -implicitDefEqProofs only [go_sem, ↓reduceIte, Nat.reduceEqDiff, Nat.reduceAdd, Nat.reduceSub, Nat.reduceMul, Nat.reduceLeDiff, reduceCtorEq, Bool.false_eq_true, Nat.reduceLT, aAppend] <;> rfl)
    rintro ρ' H' ⟨rfl, rfl⟩
    refine ACode.ret ?_
    exact hk



/-- the block that a slice of our own lies in -/
def blk (x : AV) (d : Nat) : Prop := ∃ s i j, x = .slr d s i j

theorem Stk.push {α : Type} {e : α → AV} {s N : Nat} {H : Heap} {l : List α} {x : AV} {P : Program} {t u et nb : Nat} {z : AV} (h : Stk e s N H l x) (y : α) (q : Nat) (he : elemT P t = some (et, s, nb)) (hz : zeroA P et = some z)
    (hu : notIntT P u = true) (h0 : 0 < s) (h1 : 0 < nb) (hsz : (e y).size = s) (hq : H q = none) (hn : (N + 1) * nb ≤ 140737488355328) {K : AV → Heap → Prop}
    (hk : ∀ x' H', Stk e s (N + 1) H' (l ++ [y]) x' → (∀ d, blk x' d → blk x d ∨ H d = none) → (∀ d r, H d = some r → ¬ blk x d → H' d = some r) → K x' H') :
    aAppend P t u x (.slr q s 0 1) (H.upd q (.arr s [e y])) K := by
  unfold aAppend
  simp only [he, srcOf_one, hz]
  refine ⟨hu, h0, h1, sizesAre_one hsz, ?_⟩
  have old : ∀ d r, H d = some r → (H.upd q (.arr s [e y])) d = some r := fun d r hd => Heap.le_upd hq d r hd
  have free : ∀ d, (H.upd q (.arr s [e y])) d = none → H d = none := fun d hd => by
    cases h' : H d with
    | none => rfl
    | some r => rw [old d r h'] at hd; cases hd
  have small : nb ≤ (N + 1) * nb := Nat.le_mul_of_pos_left nb (by omega)
  rcases h with ⟨rfl, rfl⟩ | ⟨b, i, row, hb, rfl, hj, hr, hN⟩
  · refine ⟨fun h => (by cases h), fun _ => ⟨by simpa using Nat.le_trans small hn, fun b hb => ?_⟩⟩
    refine hk _ _ (.inr ⟨b, 0, [y], Heap.upd_same _ _ _, rfl, by simp, rfl, by simp⟩) (fun d hd => ?_) (fun d r hd hn => ?_)
    · obtain ⟨_, _, _, h⟩ := hd; cases h; exact .inr (free _ hb)
    · have : d ≠ b := fun e => by subst e; rw [free _ hb] at hd; cases hd
      rw [Heap.upd_other _ _ this]; exact old d r hd
  · have hbq : b ≠ q := fun e => by subst e; rw [hb] at hq; cases hq
    simp only [Heap.upd_other _ _ hbq, hb, true_and, List.length_map, List.length_singleton]
    have other : ∀ d r, H d = some r → ¬ blk (.slr b s i (i + l.length)) d → ∀ b', (b' = b ∨ (H.upd q (.arr s [e y])) b' = none) → d ≠ b ∧ d ≠ b' := fun d r hd hnb b' hb' => by
      have h1 : d ≠ b := fun e => hnb ⟨s, i, i + l.length, by rw [e]⟩
      refine ⟨h1, fun e => ?_⟩
      subst e
      rcases hb' with hb' | hb'
      · exact h1 hb'
      · rw [free _ hb'] at hd; cases hd
    have hl : l.length ≤ N := by omega
    have room : ∀ m, m ≤ N → (m + 1) * nb ≤ 140737488355328 := fun m hm => Nat.le_trans (Nat.mul_le_mul_right nb (by omega)) hn
    split
    · rename_i hjl
      have hdr : row.drop i = l := by rw [← hr]; exact (List.take_of_length_le (by rw [List.length_drop]; omega)).symm
      refine ⟨by rw [show i + l.length - i + 1 = l.length + 1 by omega]; exact room _ hl, ?_⟩
      split
      · rename_i hi
        subst hi
        intro b' hb'
        have e1 : row.map e ++ [e y] = (row ++ [y]).map e := by simp
        rw [e1]
        refine hk _ _ (.inr ⟨b', 0, row ++ [y], Heap.upd_same _ _ _, by simp [Nat.add_assoc], by simp; omega, ?_, by simp; omega⟩) (fun d hd => ?_) (fun d r hd hnb => ?_)
        · have : row = l := by simpa using hdr
          subst this; rw [List.drop_zero]; exact List.take_of_length_le (Nat.le_refl _)
        · obtain ⟨_, _, _, h⟩ := hd
          cases h
          rcases hb' with rfl | hb'
          · exact .inl ⟨_, _, _, rfl⟩
          · exact .inr (free _ hb')
        · obtain ⟨g1, g2⟩ := other d r hd hnb b' hb'
          rw [Heap.upd_other _ _ g2, Heap.erase_other _ g1]; exact old d r hd
      · refine ⟨?_, fun b' hb' => ?_⟩
        · have e1 : row.map e ++ [e y] = (row ++ [y]).map e := by simp
          rw [e1]
          refine hk _ _ (.inr ⟨b, i, row ++ [y], Heap.upd_same _ _ _, by simp [Nat.add_assoc], by simp; omega, ?_, by simp; omega⟩) (fun d hd => ?_) (fun d r hd hnb => ?_)
          · rw [List.drop_append_of_le_length (by omega), hdr]; exact List.take_of_length_le (Nat.le_refl _)
          · obtain ⟨_, _, _, h⟩ := hd; cases h; exact .inl ⟨_, _, _, rfl⟩
          · obtain ⟨g1, g2⟩ := other d r hd hnb b (.inl rfl)
            rw [Heap.upd_other _ _ g1]; exact old d r hd
        · have e1 : (row.map e).drop i ++ [e y] = (l ++ [y]).map e := by rw [← List.map_drop, hdr]; simp
          rw [e1, show i + l.length - i + 1 = l.length + 1 by omega]
          refine hk _ _ (.inr ⟨b', 0, l ++ [y], Heap.upd_same _ _ _, by simp, by simp, (by rw [List.drop_zero]; exact List.take_of_length_le (Nat.le_refl _)), by simp; omega⟩) (fun d hd => ?_) (fun d r hd hnb => ?_)
          · obtain ⟨_, _, _, h⟩ := hd; cases h; exact .inr (free _ hb')
          · obtain ⟨g1, g2⟩ := other d r hd hnb b' (.inr hb')
            rw [Heap.upd_other _ _ g2, Heap.erase_other _ g1]; exact old d r hd
    · rename_i hjl
      refine ⟨by omega, ?_⟩
      have e1 : (row.map e).take (i + l.length) ++ ([e y] ++ (row.map e).drop (i + l.length + 1)) = (row.take (i + l.length) ++ ([y] ++ row.drop (i + l.length + 1))).map e := by simp
      rw [e1]
      have hlen : (row.take (i + l.length)).length = i + l.length := by rw [List.length_take]; omega
      refine hk _ _ (.inr ⟨b, i, row.take (i + l.length) ++ ([y] ++ row.drop (i + l.length + 1)), Heap.upd_same _ _ _, by simp [Nat.add_assoc], by simp; omega, ?_, by simp; omega⟩) (fun d hd => ?_) (fun d r hd hnb => ?_)
      · rw [List.drop_append_of_le_length (by omega), List.drop_take, show i + l.length - i = l.length by omega, hr]
        rw [← List.append_assoc]
        exact List.take_left
      · obtain ⟨_, _, _, h⟩ := hd; cases h; exact .inl ⟨_, _, _, rfl⟩
      · obtain ⟨g1, g2⟩ := other d r hd hnb b (.inl rfl)
        rw [Heap.upd_other _ _ g1]; exact old d r hd

end Go.Flow

