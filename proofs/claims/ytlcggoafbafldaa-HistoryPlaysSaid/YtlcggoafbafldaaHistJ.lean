/-
  A text behind edits: the reference's answer. No condition.
-/
import Derived.Test.YtlcggoafbafldaaHistI
set_option linter.unusedVariables false
set_option linter.unusedSimpArgs false
set_option maxRecDepth 20000
namespace Go.Flow
open Go Go.Proofs

def appFrom (s : List UInt8) (k : Nat) : List Edit → List UInt8
  | [] => s.drop k
  | x :: r => (s.take x.From.toNat).drop k ++ (x.Text ++ appFrom s x.To.toNat r)
def Apply (s : List UInt8) (l : List Edit) : List UInt8 × Int := if Sound l s.length = 0 then (appFrom s 0 l, 0) else ([], Sound l s.length)

/-- where the reference stands: k bytes are seen, 'out' is made, 'rest' is to be done -/
def RInv (s full : List UInt8) (k : Nat) (out : List UInt8) (rest : List Edit) : Prop :=
  (∃ last : Int, last < k ∧ soundFrom s.length last rest = 0 ∧ (∀ x r, rest = x :: r → (k : Int) ≤ x.From) ∧ full = out ++ appFrom s k rest) ∨
  (∃ x r, rest = x :: r ∧ x.From < k ∧ (k : Int) ≤ x.To ∧ x.To ≤ s.length ∧ soundFrom s.length x.To r = 0 ∧ full = out ++ appFrom s x.To.toNat r)

theorem sound_cons {n last : Int} {x : Edit} {r : List Edit} (h : soundFrom n last (x :: r) = 0) : 0 ≤ x.From ∧ x.From ≤ x.To ∧ x.To ≤ n ∧ ¬ (x.From = x.To ∧ x.Text = []) ∧ last < x.From ∧ soundFrom n x.To r = 0 := by
  rw [soundFrom] at h
  split at h
  · omega
  · split at h
    · omega
    · split at h
      · omega
      · refine ⟨by omega, by omega, by omega, by assumption, by omega, h⟩

theorem one_byte (s : List UInt8) (k : Nat) (h : k < s.length) : ∃ b, (s.take (k + 1)).drop k = [b] ∧ s.drop k = b :: s.drop (k + 1) := by
  refine ⟨s[k], ?_, List.drop_eq_getElem_cons h⟩
  have e : k + 1 - k = 1 := by omega
  rw [List.drop_take, e, List.drop_eq_getElem_cons h]; rfl

theorem app_step (s : List UInt8) (k : Nat) (rest : List Edit) (h : k < s.length) (hr : ∀ x r, rest = x :: r → (k : Int) < x.From) : appFrom s k rest = (s.take (k + 1)).drop k ++ appFrom s (k + 1) rest := by
  obtain ⟨b, h1, h2⟩ := one_byte s k h
  rw [h1]
  cases rest with
  | nil => rw [appFrom, appFrom, h2]; rfl
  | cons x r =>
    have := hr x r rfl
    obtain ⟨d, hd⟩ : ∃ d, x.From.toNat - k = d + 1 := ⟨x.From.toNat - k - 1, by omega⟩
    have hd2 : x.From.toNat - (k + 1) = d := by omega
    have e : (s.take x.From.toNat).drop k = b :: (s.take x.From.toNat).drop (k + 1) := by
      rw [List.drop_take, List.drop_take, h2, hd, hd2]; rfl
    rw [appFrom, appFrom, e]; rfl

theorem rstep {s full out out1 : List UInt8} {k : Nat} {rest rest1 : List Edit} (hI : RInv s full k out rest) (hk : k ≤ s.length)
    (h1 : (∃ x r, rest = x :: r ∧ x.From = k ∧ out1 = out ++ x.Text) ∨ ((∀ x r, rest = x :: r → x.From ≠ k) ∧ out1 = out))
    (h2 : (∃ x r, rest = x :: r ∧ x.To = k ∧ rest1 = r) ∨ ((∀ x r, rest = x :: r → x.To ≠ k) ∧ rest1 = rest)) :
    ((k < s.length ∧ ¬ (∃ x r, rest1 = x :: r ∧ x.From ≤ k ∧ k < x.To)) → RInv s full (k + 1) (out1 ++ (s.take (k + 1)).drop k) rest1) ∧
    ((∃ x r, rest1 = x :: r ∧ x.From ≤ k ∧ k < x.To) → k < s.length → RInv s full (k + 1) out1 rest1) ∧ (k = s.length → full = out1) := by
  have key : (∃ last : Int, last < k + 1 ∧ soundFrom s.length last rest1 = 0 ∧ (∀ x r, rest1 = x :: r → (k : Int) < x.From) ∧ full = out1 ++ appFrom s k rest1) ∨
      (∃ x r, rest1 = x :: r ∧ x.From ≤ k ∧ (k : Int) < x.To ∧ x.To ≤ s.length ∧ soundFrom s.length x.To r = 0 ∧ full = out1 ++ appFrom s x.To.toNat r) := by
    rcases hI with ⟨last, hl, hs, hh, hf⟩ | ⟨x, r, rfl, c1, c2, c3, hs, hf⟩
    · cases rest with
      | nil =>
        obtain rfl : out1 = out := by
          rcases h1 with ⟨_, _, h, _⟩ | ⟨_, h⟩
          · cases h
          · exact h
        obtain rfl : rest1 = [] := by
          rcases h2 with ⟨_, _, h, _⟩ | ⟨_, h⟩
          · cases h
          · exact h
        exact .inl ⟨last, by omega, hs, fun x r h => (by cases h), hf⟩
      | cons x r =>
        obtain ⟨d1, d2, d3, d4, d5, d6⟩ := sound_cons hs
        have hx := hh x r rfl
        by_cases e1 : x.From = k
        · obtain rfl : out1 = out ++ x.Text := by
            rcases h1 with ⟨y, r', h, _, h'⟩ | ⟨h, _⟩
            · cases h; exact h'
            · exact absurd e1 (h x r rfl)
          have hf2 : full = (out ++ x.Text) ++ appFrom s x.To.toNat r := by
            rw [hf, appFrom, e1, Int.toNat_natCast, List.drop_eq_nil_of_le (by rw [List.length_take]; omega)]; simp
          by_cases e2 : x.To = k
          · obtain rfl : rest1 = r := by
              rcases h2 with ⟨y, r', h, _, h'⟩ | ⟨h, _⟩
              · cases h; exact h'
              · exact absurd e2 (h x r rfl)
            refine .inl ⟨x.To, by omega, d6, fun y r' h => ?_, by rw [hf2, e2, Int.toNat_natCast]⟩
            subst h
            have := (sound_cons d6).2.2.2.2.1
            omega
          · obtain rfl : rest1 = x :: r := by
              rcases h2 with ⟨y, r', h, h', _⟩ | ⟨_, h⟩
              · cases h; exact absurd h' e2
              · exact h
            exact .inr ⟨x, r, rfl, by omega, by omega, d3, d6, hf2⟩
        · obtain rfl : out1 = out := by
            rcases h1 with ⟨y, r', h, h', _⟩ | ⟨_, h⟩
            · cases h; exact absurd h' e1
            · exact h
          have e2 : x.To ≠ k := by omega
          obtain rfl : rest1 = x :: r := by
            rcases h2 with ⟨y, r', h, h', _⟩ | ⟨_, h⟩
            · cases h; exact absurd h' e2
            · exact h
          have hx2 : (k : Int) < x.From := Int.lt_iff_le_and_ne.2 ⟨hx, fun h => e1 h.symm⟩
          exact .inl ⟨last, by omega, hs, fun y r' h => (by cases h; exact hx2), hf⟩
    · have e1 : x.From ≠ k := by omega
      obtain rfl : out1 = out := by
        rcases h1 with ⟨y, r', h, h', _⟩ | ⟨_, h⟩
        · cases h; exact absurd h' e1
        · exact h
      by_cases e2 : x.To = k
      · obtain rfl : rest1 = r := by
          rcases h2 with ⟨y, r', h, _, h'⟩ | ⟨h, _⟩
          · cases h; exact h'
          · exact absurd e2 (h x r rfl)
        refine .inl ⟨x.To, by omega, hs, fun y r' h => ?_, by rw [hf, e2, Int.toNat_natCast]⟩
        subst h
        have := (sound_cons hs).2.2.2.2.1
        omega
      · obtain rfl : rest1 = x :: r := by
          rcases h2 with ⟨y, r', h, h', _⟩ | ⟨_, h⟩
          · cases h; exact absurd h' e2
          · exact h
        exact .inr ⟨x, r, rfl, by omega, by omega, c3, hs, hf⟩
  rcases key with ⟨last, hl, hs, hh, hf⟩ | ⟨x, r, rfl, c1, c2, c3, hs, hf⟩
  · refine ⟨fun ⟨g1, _⟩ => .inl ⟨last, by omega, hs, fun x r h => (by have := hh x r h; omega), ?_⟩, fun ⟨x, r, h, g, _⟩ => absurd g (by have := hh x r h; omega), fun hkn => ?_⟩
    · rw [hf, app_step s k rest1 g1 hh, List.append_assoc]
    · rw [hf]
      cases rest1 with
      | nil => rw [appFrom, List.drop_eq_nil_of_le (by omega), List.append_nil]
      | cons x r =>
        have := hh x r rfl
        have := sound_cons hs
        omega
  · refine ⟨fun ⟨_, g⟩ => absurd ⟨x, r, rfl, c1, c2⟩ g, fun _ _ => .inr ⟨x, r, rfl, by omega, by omega, c3, hs, hf⟩, fun hkn => by omega⟩

theorem RInv.le {s full out : List UInt8} {k : Nat} {rest : List Edit} (h : RInv s full k out rest) : out.length ≤ full.length := by
  rcases h with ⟨_, _, _, _, h⟩ | ⟨_, _, _, _, _, _, _, h⟩ <;> rw [h, List.length_append] <;> omega

theorem head_at {α : Type} (l : List α) (j : Nat) (x : α) : l[j]? = some x ↔ ∃ r, l.drop j = x :: r := by
  constructor
  · intro h
    have hj : j < l.length := (List.getElem?_eq_some_iff.1 h).1
    refine ⟨l.drop (j + 1), ?_⟩
    rw [List.drop_eq_getElem_cons hj]
    rw [List.getElem?_eq_getElem hj] at h
    rw [Option.some.inj h]
  · rintro ⟨r, h⟩
    have := congrArg (·[0]?) h
    simpa using this

theorem drop_tail {α : Type} {l : List α} {j : Nat} {x : α} {r : List α} (h : l.drop j = x :: r) : l.drop (j + 1) = r := by
  rw [← List.drop_drop, h]; rfl

/-- whetstone/whetstoneref02.Apply -/
theorem c41 (s : List UInt8) (l : List Edit) (hs : s.length ≤ 140737488355328) (hl : l.length ≤ 140737488355328) (ht : ∀ x ∈ l, x.Text.length ≤ 140737488355328) (hfull : Sound l s.length = 0 → (appFrom s 0 l).length ≤ 140737488355328) (H : Heap) (K : AV → Heap → Prop) (hk : K (.tup [str (Apply s l).1, int (Apply s l).2]) H) : ACalls Try.prog 41 [str s, .sl (l.map eEdit)] H K := by
  refine ACalls.of_code Try.func41 rfl (by kernel_rfl) rfl (by simp [Try.ntmps41]) ?_
  rw [Try.ntmps41, Try.results41]; simp -implicitDefEqProofs only [go_sem, ↓reduceIte, Nat.reduceEqDiff, Nat.reduceAdd, Nat.reduceSub, Nat.reduceMul, Nat.reduceLeDiff, reduceCtorEq, Bool.false_eq_true, Nat.reduceLT, aAppend]
  refine ACode.seq ?_
  refine ACode.region [0, 1] rfl fun K1 hK => ?_
  simp -implicitDefEqProofs only [go_sem, ↓reduceIte, Nat.reduceEqDiff, Nat.reduceAdd, Nat.reduceSub, Nat.reduceMul, Nat.reduceLeDiff, reduceCtorEq, Bool.false_eq_true, Nat.reduceLT, aAppend]
  refine hK _ _ ?_ _ (by simp -implicitDefEqProofs only [go_sem, ↓reduceIte, Nat.reduceEqDiff, Nat.reduceAdd, Nat.reduceSub, Nat.reduceMul, Nat.reduceLeDiff, reduceCtorEq, Bool.false_eq_true, Nat.reduceLT]; rfl); clear hK K1
  refine ACode.seq ?_
  refine ACode.region [0, 1, 6] rfl fun K1 hK => ?_
  simp -implicitDefEqProofs only [go_sem, ↓reduceIte, Nat.reduceEqDiff, Nat.reduceAdd, Nat.reduceSub, Nat.reduceMul, Nat.reduceLeDiff, reduceCtorEq, Bool.false_eq_true, Nat.reduceLT, aAppend]
  refine c46 l s.length hl _ _ ?_
  simp -implicitDefEqProofs only [go_sem, ↓reduceIte, Nat.reduceEqDiff, Nat.reduceAdd, Nat.reduceSub, Nat.reduceMul, Nat.reduceLeDiff, reduceCtorEq, Bool.false_eq_true, Nat.reduceLT, aAppend]
  refine hK _ _ ?_ _ (by simp -implicitDefEqProofs only [go_sem, ↓reduceIte, Nat.reduceEqDiff, Nat.reduceAdd, Nat.reduceSub, Nat.reduceMul, Nat.reduceLeDiff, reduceCtorEq, Bool.false_eq_true, Nat.reduceLT]; rfl); clear hK K1
  refine ACode.seq ?_
  refine ACode.seq ?_
  refine ACode.region [0, 1, 6, 16] rfl fun K1 hK => ?_
  simp -implicitDefEqProofs only [go_sem, ↓reduceIte, Nat.reduceEqDiff, Nat.reduceAdd, Nat.reduceSub, Nat.reduceMul, Nat.reduceLeDiff, reduceCtorEq, Bool.false_eq_true, Nat.reduceLT, aAppend]
  refine hK _ _ ?_ _ (by simp -implicitDefEqProofs only [go_sem, ↓reduceIte, Nat.reduceEqDiff, Nat.reduceAdd, Nat.reduceSub, Nat.reduceMul, Nat.reduceLeDiff, reduceCtorEq, Bool.false_eq_true, Nat.reduceLT]; rfl); clear hK K1
  refine ACode.cond rfl (fun h => ?_) (fun h => ?_)
  · -- yes
    try simp only [decide_eq_true_eq] at h
    rw [Apply, if_neg (by simpa using h)] at hk
    refine ACode.seq ?_
    refine ACode.region [4, 5] rfl fun K1 hK => ?_
    simp -implicitDefEqProofs only [go_sem, ↓reduceIte, Nat.reduceEqDiff, Nat.reduceAdd, Nat.reduceSub, Nat.reduceMul, Nat.reduceLeDiff, reduceCtorEq, Bool.false_eq_true, Nat.reduceLT, aAppend]
    refine hK _ _ ?_ _ (by simp -implicitDefEqProofs only [go_sem, ↓reduceIte, Nat.reduceEqDiff, Nat.reduceAdd, Nat.reduceSub, Nat.reduceMul, Nat.reduceLeDiff, reduceCtorEq, Bool.false_eq_true, Nat.reduceLT]; rfl); clear hK K1
    refine ACode.ret ?_
    exact hk
  · -- no
    try simp only [decide_eq_false_iff_not] at h
    have h0 : Sound l s.length = 0 := by simpa using h
    rw [Apply, if_pos h0] at hk
    replace hfull := hfull h0
    rw [Sound] at h0
    split at h0
    · omega
    rename_i h512
    refine ACode.skip ?_
    refine ACode.seq ?_
    refine ACode.region [0, 1, 7] rfl fun K1 hK => ?_
    simp -implicitDefEqProofs only [go_sem, ↓reduceIte, Nat.reduceEqDiff, Nat.reduceAdd, Nat.reduceSub, Nat.reduceMul, Nat.reduceLeDiff, reduceCtorEq, Bool.false_eq_true, Nat.reduceLT, aAppend]
    refine hK _ _ ?_ _ (by simp -implicitDefEqProofs only [go_sem, ↓reduceIte, Nat.reduceEqDiff, Nat.reduceAdd, Nat.reduceSub, Nat.reduceMul, Nat.reduceLeDiff, reduceCtorEq, Bool.false_eq_true, Nat.reduceLT]; rfl); clear hK K1
    refine ACode.seq ?_
    refine ACode.region [0, 1, 7, 8] rfl fun K1 hK => ?_
    simp -implicitDefEqProofs only [go_sem, ↓reduceIte, Nat.reduceEqDiff, Nat.reduceAdd, Nat.reduceSub, Nat.reduceMul, Nat.reduceLeDiff, reduceCtorEq, Bool.false_eq_true, Nat.reduceLT, aAppend]
    refine hK _ _ ?_ _ (by simp -implicitDefEqProofs only [go_sem, ↓reduceIte, Nat.reduceEqDiff, Nat.reduceAdd, Nat.reduceSub, Nat.reduceMul, Nat.reduceLeDiff, reduceCtorEq, Bool.false_eq_true, Nat.reduceLT]; rfl); clear hK K1
    refine ACode.seq ?_
    refine ACode.seq ?_
    refine ACode.region [0, 1, 7, 8, 9] rfl fun K1 hK => ?_
    simp -implicitDefEqProofs only [go_sem, ↓reduceIte, Nat.reduceEqDiff, Nat.reduceAdd, Nat.reduceSub, Nat.reduceMul, Nat.reduceLeDiff, reduceCtorEq, Bool.false_eq_true, Nat.reduceLT, aAppend]
    refine hK _ _ ?_ _ (by simp -implicitDefEqProofs only [go_sem, ↓reduceIte, Nat.reduceEqDiff, Nat.reduceAdd, Nat.reduceSub, Nat.reduceMul, Nat.reduceLeDiff, reduceCtorEq, Bool.false_eq_true, Nat.reduceLT]; rfl); clear hK K1
    refine ACode.block ?_
    refine ACode.loop (fun m ρ H' => ∃ (k j : Nat) (out : List UInt8), m = s.length + 1 - k ∧ ((k ≤ s.length ∧ RInv s (appFrom s 0 l) k out (l.drop j)) ∨ (k = s.length + 1 ∧ appFrom s 0 l = out)) ∧ j ≤ l.length ∧ H' = H ∧ ρ = [(0, str s), (1, .sl (l.map eEdit)), (7, str out), (8, int j), (9, int k)]) (s.length + 1) ⟨0, 0, [], rfl, .inl ⟨Nat.zero_le _, .inl ⟨-1, by omega, h0, fun x r h => ?_, rfl⟩⟩, Nat.zero_le _, rfl, rfl⟩ ?_
    · rw [show List.drop 0 l = l from rfl] at h
      rw [h] at h0
      have := sound_cons h0
      omega
    rintro m ρ H' ⟨k, j, out, rfl, hI, hjl, rfl, rfl⟩
    simp -implicitDefEqProofs only [go_sem, ↓reduceIte, Nat.reduceEqDiff, Nat.reduceAdd, Nat.reduceSub, Nat.reduceMul, Nat.reduceLeDiff, reduceCtorEq, Bool.false_eq_true, Nat.reduceLT, aAppend]
    refine ACode.seq ?_
    refine ACode.seq ?_
    refine ACode.region [0, 1, 7, 8, 9, 21] rfl fun K1 hK => ?_
    simp -implicitDefEqProofs only [go_sem, ↓reduceIte, Nat.reduceEqDiff, Nat.reduceAdd, Nat.reduceSub, Nat.reduceMul, Nat.reduceLeDiff, reduceCtorEq, Bool.false_eq_true, Nat.reduceLT, aAppend]
    refine hK _ _ ?_ _ (by simp -implicitDefEqProofs only [go_sem, ↓reduceIte, Nat.reduceEqDiff, Nat.reduceAdd, Nat.reduceSub, Nat.reduceMul, Nat.reduceLeDiff, reduceCtorEq, Bool.false_eq_true, Nat.reduceLT]; rfl); clear hK K1
    refine ACode.cond rfl (fun h => ?_) (fun h => ?_)
    · -- yes
      try simp only [decide_eq_true_eq] at h
      have hkn : k ≤ s.length := by omega
      have hI2 : RInv s (appFrom s 0 l) k out (l.drop j) := by
        rcases hI with ⟨_, h⟩ | ⟨h, _⟩
        · exact h
        · omega
      refine ACode.skip ?_
      refine ACode.seq ?_
      refine ACode.block ?_
      refine ACode.seq_cut [0, 1, 7, 8, 9] (fun ρ' H1 => ∃ out1, ((∃ x r, l.drop j = x :: r ∧ x.From = k ∧ out1 = out ++ x.Text) ∨ ((∀ x r, l.drop j = x :: r → x.From ≠ k) ∧ out1 = out)) ∧ H1 = H' ∧ ρ' = [(0, str s), (1, .sl (l.map eEdit)), (7, str out1), (8, int j), (9, int k)]) ?_ ?_
      · -- M9
        refine ACode.seq ?_
        refine ACode.region_cut [0, 1, 7, 8, 9, 36] (fun ρ' H1 => ∃ t : Bool, (t = true ↔ ∃ x r, l.drop j = x :: r ∧ x.From = k) ∧ H1 = H' ∧ ρ' = [(0, str s), (1, .sl (l.map eEdit)), (7, str out), (8, int j), (9, int k), (36, boo t)]) rfl (fun K1 hK => ?_) ?_
        · by_cases h1 : (j : Int) < l.length
          · have hd1 : decide ((j : Int) < l.length) = true := decide_eq_true h1
            obtain ⟨x, hx, hd, -, -⟩ := at_drop l j (by omega)
            simp -implicitDefEqProofs only [go_sem, ↓reduceIte, Nat.reduceEqDiff, Nat.reduceAdd, Nat.reduceSub, Nat.reduceMul, Nat.reduceLeDiff, reduceCtorEq, Bool.false_eq_true, Nat.reduceLT, aAppend, hd1, hx, eEdit]
            refine hK _ _ ⟨decide (x.From = k), ?_, rfl, rfl⟩ _ (by simp -implicitDefEqProofs only [go_sem, ↓reduceIte, Nat.reduceEqDiff, Nat.reduceAdd, Nat.reduceSub, Nat.reduceMul, Nat.reduceLeDiff, reduceCtorEq, Bool.false_eq_true, Nat.reduceLT, aAppend] <;> rfl)
            rw [hd]; simp
          · have hd1 : decide ((j : Int) < l.length) = false := decide_eq_false h1
            simp -implicitDefEqProofs only [go_sem, ↓reduceIte, Nat.reduceEqDiff, Nat.reduceAdd, Nat.reduceSub, Nat.reduceMul, Nat.reduceLeDiff, reduceCtorEq, Bool.false_eq_true, Nat.reduceLT, aAppend, hd1]
            refine hK _ _ ⟨false, ?_, rfl, rfl⟩ _ (by simp -implicitDefEqProofs only [go_sem, ↓reduceIte, Nat.reduceEqDiff, Nat.reduceAdd, Nat.reduceSub, Nat.reduceMul, Nat.reduceLeDiff, reduceCtorEq, Bool.false_eq_true, Nat.reduceLT, aAppend] <;> rfl)
            rw [drop_end l j h1]; simp
        rintro ρ' H1 ⟨t, ht36, rfl, rfl⟩
        refine ACode.cond rfl (fun h => ?_) (fun h => ?_)
        · -- yes
          try simp only [decide_eq_true_eq] at h
          subst h
          obtain ⟨x, r, hd, hf⟩ := ht36.1 rfl
          have hx := (head_at l j x).2 ⟨r, hd⟩
          refine ACode.region [0, 1, 7, 8, 9] rfl fun K1 hK => ?_
          have hle := hI2.le
          have htx := ht x (List.mem_of_getElem? hx)
          have hlen : out.length + x.Text.length ≤ 9223372036854775807 := by omega
          simp -implicitDefEqProofs only [go_sem, ↓reduceIte, Nat.reduceEqDiff, Nat.reduceAdd, Nat.reduceSub, Nat.reduceMul, Nat.reduceLeDiff, reduceCtorEq, Bool.false_eq_true, Nat.reduceLT, aAppend, hx, hlen, eEdit]
          refine hK _ _ ?_ _ (by simp -implicitDefEqProofs only [go_sem, ↓reduceIte, Nat.reduceEqDiff, Nat.reduceAdd, Nat.reduceSub, Nat.reduceMul, Nat.reduceLeDiff, reduceCtorEq, Bool.false_eq_true, Nat.reduceLT]; rfl); clear hK K1
          first
            | exact ⟨rfl, out ++ x.Text, .inl ⟨x, r, hd, hf, rfl⟩, rfl, rfl⟩
            | exact ⟨rfl, out, .inr ⟨fun x r hd hf => by simpa using ht36.2 ⟨x, r, hd, hf⟩, rfl⟩, rfl, rfl⟩
        · -- no
          try simp only [decide_eq_false_iff_not] at h
          subst h
          refine ACode.skip ?_
          first
            | exact ⟨rfl, out ++ x.Text, .inl ⟨x, r, hd, hf, rfl⟩, rfl, rfl⟩
            | exact ⟨rfl, out, .inr ⟨fun x r hd hf => by simpa using ht36.2 ⟨x, r, hd, hf⟩, rfl⟩, rfl, rfl⟩
      rintro ρ1 H1 ⟨out1, hout, rfl, rfl⟩
      refine ACode.seq_cut [0, 1, 7, 8, 9] (fun ρ' H2 => ∃ j1, ((∃ x r, l.drop j = x :: r ∧ x.To = k ∧ l.drop j1 = r) ∨ ((∀ x r, l.drop j = x :: r → x.To ≠ k) ∧ l.drop j1 = l.drop j)) ∧ j1 ≤ l.length ∧ H2 = H1 ∧ ρ' = [(0, str s), (1, .sl (l.map eEdit)), (7, str out1), (8, int j1), (9, int k)]) ?_ ?_
      · -- M11
        refine ACode.seq ?_
        refine ACode.region_cut [0, 1, 7, 8, 9, 56] (fun ρ' H2 => ∃ t : Bool, (t = true ↔ ∃ x r, l.drop j = x :: r ∧ x.To = k) ∧ H2 = H1 ∧ ρ' = [(0, str s), (1, .sl (l.map eEdit)), (7, str out1), (8, int j), (9, int k), (56, boo t)]) rfl (fun K1 hK => ?_) ?_
        · by_cases h1 : (j : Int) < l.length
          · have hd1 : decide ((j : Int) < l.length) = true := decide_eq_true h1
            obtain ⟨x, hx, hd, -, -⟩ := at_drop l j (by omega)
            simp -implicitDefEqProofs only [go_sem, ↓reduceIte, Nat.reduceEqDiff, Nat.reduceAdd, Nat.reduceSub, Nat.reduceMul, Nat.reduceLeDiff, reduceCtorEq, Bool.false_eq_true, Nat.reduceLT, aAppend, hd1, hx, eEdit]
            refine hK _ _ ⟨decide (x.To = k), ?_, rfl, rfl⟩ _ (by simp -implicitDefEqProofs only [go_sem, ↓reduceIte, Nat.reduceEqDiff, Nat.reduceAdd, Nat.reduceSub, Nat.reduceMul, Nat.reduceLeDiff, reduceCtorEq, Bool.false_eq_true, Nat.reduceLT, aAppend] <;> rfl)
            rw [hd]; simp
          · have hd1 : decide ((j : Int) < l.length) = false := decide_eq_false h1
            simp -implicitDefEqProofs only [go_sem, ↓reduceIte, Nat.reduceEqDiff, Nat.reduceAdd, Nat.reduceSub, Nat.reduceMul, Nat.reduceLeDiff, reduceCtorEq, Bool.false_eq_true, Nat.reduceLT, aAppend, hd1]
            refine hK _ _ ⟨false, ?_, rfl, rfl⟩ _ (by simp -implicitDefEqProofs only [go_sem, ↓reduceIte, Nat.reduceEqDiff, Nat.reduceAdd, Nat.reduceSub, Nat.reduceMul, Nat.reduceLeDiff, reduceCtorEq, Bool.false_eq_true, Nat.reduceLT, aAppend] <;> rfl)
            rw [drop_end l j h1]; simp
        rintro ρ' H2 ⟨t, ht56, rfl, rfl⟩
        refine ACode.cond rfl (fun h => ?_) (fun h => ?_)
        · -- yes
          try simp only [decide_eq_true_eq] at h
          subst h
          obtain ⟨x, r, hd, hf⟩ := ht56.1 rfl
          have hjlt : j < l.length := by
            rcases Nat.lt_or_ge j l.length with h | h
            · exact h
            · rw [List.drop_eq_nil_of_le h] at hd; cases hd
          refine ACode.region [0, 1, 7, 8, 9] rfl fun K1 hK => ?_
          simp -implicitDefEqProofs only [go_sem, ↓reduceIte, Nat.reduceEqDiff, Nat.reduceAdd, Nat.reduceSub, Nat.reduceMul, Nat.reduceLeDiff, reduceCtorEq, Bool.false_eq_true, Nat.reduceLT, aAppend]
          rw [wrap_i64 (by omega) (by omega)]
          refine hK _ _ ?_ _ (by simp -implicitDefEqProofs only [go_sem, ↓reduceIte, Nat.reduceEqDiff, Nat.reduceAdd, Nat.reduceSub, Nat.reduceMul, Nat.reduceLeDiff, reduceCtorEq, Bool.false_eq_true, Nat.reduceLT]; rfl); clear hK K1
          first
            | exact ⟨rfl, j + 1, .inl ⟨x, r, hd, hf, drop_tail hd⟩, by omega, rfl, rfl⟩
            | exact ⟨rfl, j, .inr ⟨fun x r hd hf => by simpa using ht56.2 ⟨x, r, hd, hf⟩, rfl⟩, hjl, rfl, rfl⟩
        · -- no
          try simp only [decide_eq_false_iff_not] at h
          subst h
          refine ACode.skip ?_
          first
            | exact ⟨rfl, j + 1, .inl ⟨x, r, hd, hf, drop_tail hd⟩, by omega, rfl, rfl⟩
            | exact ⟨rfl, j, .inr ⟨fun x r hd hf => by simpa using ht56.2 ⟨x, r, hd, hf⟩, rfl⟩, hjl, rfl, rfl⟩
      rintro ρ2 H2 ⟨j1, hj1, hjl1, rfl, rfl⟩
      have hstep := rstep hI2 hkn hout hj1
      refine ACode.seq ?_
      refine ACode.region_cut [0, 1, 7, 8, 9, 10] (fun ρ' H3 => ∃ t : Bool, (t = true ↔ ∃ x r, l.drop j1 = x :: r ∧ x.From ≤ k ∧ k < x.To) ∧ H3 = H2 ∧ ρ' = [(0, str s), (1, .sl (l.map eEdit)), (7, str out1), (8, int j1), (9, int k), (10, boo t)]) rfl (fun K1 hK => ?_) ?_
      · by_cases h1 : (j1 : Int) < l.length
        · have hd1 : decide ((j1 : Int) < l.length) = true := decide_eq_true h1
          obtain ⟨x, hx, hd, -, -⟩ := at_drop l j1 (by omega)
          by_cases h2 : x.From ≤ k
          · have hd2 : decide (x.From ≤ k) = true := decide_eq_true h2
            simp -implicitDefEqProofs only [go_sem, ↓reduceIte, Nat.reduceEqDiff, Nat.reduceAdd, Nat.reduceSub, Nat.reduceMul, Nat.reduceLeDiff, reduceCtorEq, Bool.false_eq_true, Nat.reduceLT, aAppend, hd1, hx, eEdit, hd2]
            refine hK _ _ ⟨decide ((k : Int) < x.To), ?_, rfl, rfl⟩ _ (by simp -implicitDefEqProofs only [go_sem, ↓reduceIte, Nat.reduceEqDiff, Nat.reduceAdd, Nat.reduceSub, Nat.reduceMul, Nat.reduceLeDiff, reduceCtorEq, Bool.false_eq_true, Nat.reduceLT, aAppend] <;> rfl)
            rw [hd]; simp [h2]
          · have hd2 : decide (x.From ≤ k) = false := decide_eq_false h2
            simp -implicitDefEqProofs only [go_sem, ↓reduceIte, Nat.reduceEqDiff, Nat.reduceAdd, Nat.reduceSub, Nat.reduceMul, Nat.reduceLeDiff, reduceCtorEq, Bool.false_eq_true, Nat.reduceLT, aAppend, hd1, hx, eEdit, hd2]
            refine hK _ _ ⟨false, ?_, rfl, rfl⟩ _ (by simp -implicitDefEqProofs only [go_sem, ↓reduceIte, Nat.reduceEqDiff, Nat.reduceAdd, Nat.reduceSub, Nat.reduceMul, Nat.reduceLeDiff, reduceCtorEq, Bool.false_eq_true, Nat.reduceLT, aAppend] <;> rfl)
            rw [hd]; simp [h2]
        · have hd1 : decide ((j1 : Int) < l.length) = false := decide_eq_false h1
          simp -implicitDefEqProofs only [go_sem, ↓reduceIte, Nat.reduceEqDiff, Nat.reduceAdd, Nat.reduceSub, Nat.reduceMul, Nat.reduceLeDiff, reduceCtorEq, Bool.false_eq_true, Nat.reduceLT, aAppend, hd1]
          refine hK _ _ ⟨false, ?_, rfl, rfl⟩ _ (by simp -implicitDefEqProofs only [go_sem, ↓reduceIte, Nat.reduceEqDiff, Nat.reduceAdd, Nat.reduceSub, Nat.reduceMul, Nat.reduceLeDiff, reduceCtorEq, Bool.false_eq_true, Nat.reduceLT, aAppend] <;> rfl)
          rw [drop_end l j1 h1]; simp
      rintro ρ' H3 ⟨t, ht10, rfl, rfl⟩
      refine ACode.seq ?_
      refine ACode.region_cut [0, 1, 7, 8, 9, 88] (fun ρ' H4 => ∃ u : Bool, (u = true ↔ k < s.length ∧ t = false) ∧ H4 = H3 ∧ ρ' = [(0, str s), (1, .sl (l.map eEdit)), (7, str out1), (8, int j1), (9, int k), (88, boo u)]) rfl (fun K1 hK => ?_) ?_
      · by_cases h1 : (k : Int) < s.length
        · have hd1 : decide ((k : Int) < s.length) = true := decide_eq_true h1
          simp -implicitDefEqProofs only [go_sem, ↓reduceIte, Nat.reduceEqDiff, Nat.reduceAdd, Nat.reduceSub, Nat.reduceMul, Nat.reduceLeDiff, reduceCtorEq, Bool.false_eq_true, Nat.reduceLT, aAppend, hd1]
          refine hK _ _ ⟨!t, ?_, rfl, rfl⟩ _ (by simp -implicitDefEqProofs only [go_sem, ↓reduceIte, Nat.reduceEqDiff, Nat.reduceAdd, Nat.reduceSub, Nat.reduceMul, Nat.reduceLeDiff, reduceCtorEq, Bool.false_eq_true, Nat.reduceLT, aAppend] <;> rfl)
          simp; omega
        · have hd1 : decide ((k : Int) < s.length) = false := decide_eq_false h1
          simp -implicitDefEqProofs only [go_sem, ↓reduceIte, Nat.reduceEqDiff, Nat.reduceAdd, Nat.reduceSub, Nat.reduceMul, Nat.reduceLeDiff, reduceCtorEq, Bool.false_eq_true, Nat.reduceLT, aAppend, hd1]
          refine hK _ _ ⟨false, ?_, rfl, rfl⟩ _ (by simp -implicitDefEqProofs only [go_sem, ↓reduceIte, Nat.reduceEqDiff, Nat.reduceAdd, Nat.reduceSub, Nat.reduceMul, Nat.reduceLeDiff, reduceCtorEq, Bool.false_eq_true, Nat.reduceLT, aAppend] <;> rfl)
          simp; omega
      rintro ρ' H4 ⟨u, ht88, rfl, rfl⟩
      refine ACode.cond rfl (fun h => ?_) (fun h => ?_)
      · -- yes
        try simp only [decide_eq_true_eq] at h
        subst h
        obtain ⟨hk1, ht0⟩ := ht88.1 rfl
        subst ht0
        have hnew := hstep.1 ⟨hk1, fun h => by simpa using ht10.2 h⟩
        refine ACode.region [0, 1, 7, 8, 9] rfl fun K1 hK => ?_
        have e2 : ((k : Int) + 1).toNat = k + 1 := by omega
        obtain ⟨b1, hb1, -⟩ := one_byte s k hk1
        have htl : ∀ x ∈ l, x.Text.length ≤ 140737488355328 := ht
        have hle := hI2.le
        have hlen : out1.length + ((s.take (k + 1)).drop k).length ≤ 9223372036854775807 := by
          rw [hb1]
          rcases hout with ⟨x, r, hd, -, rfl⟩ | ⟨-, rfl⟩
          · have := ht x (List.mem_of_mem_drop (by rw [hd]; exact List.mem_cons_self))
            simp; omega
          · simp; omega
        simp -implicitDefEqProofs only [go_sem, ↓reduceIte, Nat.reduceEqDiff, Nat.reduceAdd, Nat.reduceSub, Nat.reduceMul, Nat.reduceLeDiff, reduceCtorEq, Bool.false_eq_true, Nat.reduceLT, aAppend]
        rw [wrap_i64 (by omega) (by omega)]
        simp -implicitDefEqProofs only [go_sem, ↓reduceIte, Nat.reduceEqDiff, Nat.reduceAdd, Nat.reduceSub, Nat.reduceMul, Nat.reduceLeDiff, reduceCtorEq, Bool.false_eq_true, Nat.reduceLT, aAppend, e2, hlen]
        refine ⟨by omega, by omega, ?_⟩
        refine hK _ _ ?_ _ (by simp -implicitDefEqProofs only [go_sem, ↓reduceIte, Nat.reduceEqDiff, Nat.reduceAdd, Nat.reduceSub, Nat.reduceMul, Nat.reduceLeDiff, reduceCtorEq, Bool.false_eq_true, Nat.reduceLT]; rfl); clear hK K1
        refine ACode.region [0, 1, 7, 8, 9] rfl fun K1 hK => ?_
        simp -implicitDefEqProofs only [go_sem, ↓reduceIte, Nat.reduceEqDiff, Nat.reduceAdd, Nat.reduceSub, Nat.reduceMul, Nat.reduceLeDiff, reduceCtorEq, Bool.false_eq_true, Nat.reduceLT, aAppend]
        rw [wrap_i64 (by omega) (by omega)]
        refine hK _ _ ?_ _ (by simp -implicitDefEqProofs only [go_sem, ↓reduceIte, Nat.reduceEqDiff, Nat.reduceAdd, Nat.reduceSub, Nat.reduceMul, Nat.reduceLeDiff, reduceCtorEq, Bool.false_eq_true, Nat.reduceLT]; rfl); clear hK K1
        first
          | exact ⟨_, by omega, k + 1, j1, _, rfl, .inl ⟨by omega, hnew⟩, hjl1, rfl, by simp <;> rfl⟩
          | (have h4 : ¬ (k < s.length ∧ t = false) := fun h => by simpa using ht88.2 h
             by_cases hkl : k < s.length
             · have ht1 : t = true := by cases t; exact absurd ⟨hkl, rfl⟩ h4; rfl
               exact ⟨_, by omega, k + 1, j1, _, rfl, .inl ⟨by omega, hstep.2.1 (ht10.1 ht1) hkl⟩, hjl1, rfl, by simp <;> rfl⟩
             · exact ⟨_, by omega, k + 1, j1, _, rfl, .inr ⟨by omega, hstep.2.2 (by omega)⟩, hjl1, rfl, by simp <;> rfl⟩)
      · -- no
        try simp only [decide_eq_false_iff_not] at h
        subst h
        refine ACode.skip ?_
        refine ACode.region [0, 1, 7, 8, 9] rfl fun K1 hK => ?_
        simp -implicitDefEqProofs only [go_sem, ↓reduceIte, Nat.reduceEqDiff, Nat.reduceAdd, Nat.reduceSub, Nat.reduceMul, Nat.reduceLeDiff, reduceCtorEq, Bool.false_eq_true, Nat.reduceLT, aAppend]
        rw [wrap_i64 (by omega) (by omega)]
        refine hK _ _ ?_ _ (by simp -implicitDefEqProofs only [go_sem, ↓reduceIte, Nat.reduceEqDiff, Nat.reduceAdd, Nat.reduceSub, Nat.reduceMul, Nat.reduceLeDiff, reduceCtorEq, Bool.false_eq_true, Nat.reduceLT]; rfl); clear hK K1
        first
          | exact ⟨_, by omega, k + 1, j1, _, rfl, .inl ⟨by omega, hnew⟩, hjl1, rfl, by simp <;> rfl⟩
          | (have h4 : ¬ (k < s.length ∧ t = false) := fun h => by simpa using ht88.2 h
             by_cases hkl : k < s.length
             · have ht1 : t = true := by cases t; exact absurd ⟨hkl, rfl⟩ h4; rfl
               exact ⟨_, by omega, k + 1, j1, _, rfl, .inl ⟨by omega, hstep.2.1 (ht10.1 ht1) hkl⟩, hjl1, rfl, by simp <;> rfl⟩
             · exact ⟨_, by omega, k + 1, j1, _, rfl, .inr ⟨by omega, hstep.2.2 (by omega)⟩, hjl1, rfl, by simp <;> rfl⟩)
    · -- no
      try simp only [decide_eq_false_iff_not] at h
      refine ACode.exit ?_
      have hfin : appFrom s 0 l = out := by
        rcases hI with ⟨h1, _⟩ | ⟨_, h1⟩
        · omega
        · exact h1
      rw [hfin] at hk
      refine ACode.seq ?_
      refine ACode.region [4, 5] rfl fun K1 hK => ?_
      simp -implicitDefEqProofs only [go_sem, ↓reduceIte, Nat.reduceEqDiff, Nat.reduceAdd, Nat.reduceSub, Nat.reduceMul, Nat.reduceLeDiff, reduceCtorEq, Bool.false_eq_true, Nat.reduceLT, aAppend]
      refine hK _ _ ?_ _ (by simp -implicitDefEqProofs only [go_sem, ↓reduceIte, Nat.reduceEqDiff, Nat.reduceAdd, Nat.reduceSub, Nat.reduceMul, Nat.reduceLeDiff, reduceCtorEq, Bool.false_eq_true, Nat.reduceLT]; rfl); clear hK K1
      refine ACode.ret ?_
      exact hk


end Go.Flow

