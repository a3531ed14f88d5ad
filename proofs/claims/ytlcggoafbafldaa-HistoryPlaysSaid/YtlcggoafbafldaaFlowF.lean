/-
  Slices cut, appended to, counted; maps; plain operators; against abstract values. No condition.
-/
import Derived.Test.YtlcggoafbafldaaFlowE
import Derived.Laws.StructEq
set_option linter.unusedSectionVars false
set_option linter.unusedVariables false
namespace Go.Flow
open Go

/-! ### cutting -/
def aBound : Option AV → Int → Option Int
  | none, n => some n
  | some (.v (.int _ m)), _ => some m
  | _, _ => none

def isStrT (P : Program) (t : TypeId) : Bool := match P.underlying t with | some .string => true | _ => false

/-- the row is long enough -/
def capped (H : Heap) (b s i : Nat) (h : Int) : Prop := 0 < s ∧ ∃ l, H b = some (.arr s l) ∧ (i : Int) + h ≤ l.length

theorem capped_cap {I : Nat → Nat → Prop} {w : World} {H : Heap} {b s i cap n : Nat} {h : Int} {T : TypeId} (hc : capped H b s i h) (hR : Rel I w H) (hs : w.shape? b = some (T, n)) (hn : (i + cap) * s = n) : h ≤ cap := by
  obtain ⟨h0, l, hb, hl⟩ := hc
  have hr := hR.res b _ hb
  simp only [ResOk] at hr
  obtain ⟨_, cs, T', c1, c2, r1, r2, r3, r4⟩ := hr
  have hsz : w.shape? b = some (T', cs.size) := by simp [World.shape?, r1]
  rw [hsz] at hs
  cases hs
  have hl1 : c1.length = l.length * s := by rw [Reps.length _ _ r4, sizes_uniform _ s r2]
  have hl2 : l.length * s ≤ cs.size := by rw [← Array.length_toList, r3, List.length_append]; omega
  rw [← hn] at hl2
  have := Nat.le_of_mul_le_mul_right hl2 h0
  omega

def aSlice (P : Program) (t : TypeId) (x : AV) (lo hi : Option AV) (H : Heap) (K : AV → Heap → Prop) : Prop :=
  match x with
  | .v (.string s) => match aBound lo 0, aBound hi s.size with
    | some l, some h => isStrT P t = true ∧ 0 ≤ l ∧ l ≤ h ∧ h ≤ s.size ∧ K (.v (.string (s.extract l.toNat h.toNat))) H
    | _, _ => False
  | .sl xs => match aBound lo 0, aBound hi xs.length, elemT P t with
    | some l, some h, some (_, s, _) => 0 ≤ l ∧ l ≤ h ∧ h ≤ xs.length ∧ sizesAre s xs ∧ K (.sl ((xs.take h.toNat).drop l.toNat)) H
    | _, _, _ => False
  | .slr b s' i j => match aBound lo 0, aBound hi (j - i : Nat), elemT P t with
    | some l, some h, some (_, s, _) => s' = s ∧ 0 ≤ l ∧ l ≤ h ∧ (h ≤ (j - i : Nat) ∨ capped H b s i h) ∧ K (.slr b s' (i + l.toNat) (i + h.toNat)) H
    | _, _, _ => False
  | .v (.slice none 0 0) => match aBound lo 0, aBound hi 0, elemT P t with
    | some l, some h, some _ => l = 0 ∧ h = 0 ∧ K (.v (.slice none 0 0)) H
    | _, _, _ => False
  | _ => False

/-- an operand that may be left out -/
def OptRep (I : Nat → Nat → Prop) (w : World) : Option AV → Option Value → Prop
  | none, none => True
  | some x, some y => RepT I w x y
  | _, _ => False

theorem run_sliceBound' {P : Program} {w : World} {k : IntKind} {n : Int} {y : Nat} {c : BoundsCode} (h0 : 0 ≤ n) (h1 : n ≤ y) : (Instr.sliceBound (.int k n) y c).run P w = .ok n.toNat w := by
  simp [Instr.sliceBound, asIntOf, h0, h1]

theorem run_sliceBounds' {P : Program} {I : Nat → Nat → Prop} {w : World} {isS : Bool} {len cap : Nat} {lo hi : Option AV} {lov hiv : Option Value} {l h : Int} (hlo : OptRep I w lo lov) (hhi : OptRep I w hi hiv)
    (hl : aBound lo 0 = some l) (hh : aBound hi len = some h) (h0 : 0 ≤ l) (h1 : l ≤ h) (h2 : h ≤ cap) : (Instr.sliceBounds isS len cap lov hiv none).run P w = .ok (l.toNat, h.toNat, cap) w := by
  have e1 : (hiv = none ∧ h.toNat = len) ∨ ∃ k, hiv = some (.int k h) := by
    cases hi with
    | none => cases hiv <;> simp [OptRep] at hhi; simp [aBound] at hh; simp [← hh]
    | some x =>
      cases hiv <;> simp [OptRep] at hhi
      rename_i y
      cases x <;> simp [aBound] at hh
      rename_i v
      cases v <;> simp at hh
      rename_i k m
      simp only [RepT, RepV] at hhi
      subst hhi; subst hh
      exact .inr ⟨k, rfl⟩
  have e2 : (lov = none ∧ l.toNat = 0) ∨ ∃ k, lov = some (.int k l) := by
    cases lo with
    | none => cases lov <;> simp [OptRep] at hlo; simp [aBound] at hl; simp [← hl]
    | some x =>
      cases lov <;> simp [OptRep] at hlo
      rename_i y
      cases x <;> simp [aBound] at hl
      rename_i v
      cases v <;> simp at hl
      rename_i k m
      simp only [RepT, RepV] at hlo
      subst hlo; subst hl
      exact .inr ⟨k, rfl⟩
  have hb : ∀ k c, (Instr.sliceBound (.int k h) cap c).run P w = .ok h.toNat w := fun k c => run_sliceBound' (by omega) h2
  have hb2 : ∀ k c, (Instr.sliceBound (.int k l) h.toNat c).run P w = .ok l.toNat w := fun k c => run_sliceBound' h0 (by omega)
  unfold Instr.sliceBounds
  rcases e1 with ⟨rfl, e1⟩ | ⟨k, rfl⟩ <;> rcases e2 with ⟨rfl, e2⟩ | ⟨k2, rfl⟩
  · simp [e1, e2]
  · simp [← e1, hb2]
  · simp [hb, e2]
  · simp [hb, hb2]

theorem Reps.take {I : Nat → Nat → Prop} {w : World} {l : List AV} {cs : List Value} (h : Reps I w l cs) (n : Nat) : ∃ c1 c2, cs = c1 ++ c2 ∧ Reps I w (l.take n) c1 ∧ Reps I w (l.drop n) c2 := by
  have : l = l.take n ++ l.drop n := (List.take_append_drop n l).symm
  rw [this] at h
  exact Reps.split h

theorem aSlice_ok {P : Program} {t : TypeId} {x : AV} {y : Value} {lo hi : Option AV} {lov hiv : Option Value} {I : Nat → Nat → Prop} {w : World} {H : Heap} {K : AV → Heap → Prop} (h : aSlice P t x lo hi H K)
    (hy : RepT I w x y) (hlo : OptRep I w lo lov) (hhi : OptRep I w hi hiv) (hR : Rel I w H) : SemOk P (Instr.sliceAt t y lov hiv none) I w H K := by
  unfold aSlice at h
  split at h <;> try exact h.elim
  · rename_i s
    split at h <;> try exact h.elim
    rename_i l hh hl1 hh1
    obtain ⟨ht, h0, h1, h2, hk⟩ := h
    have hu : P.underlying t = some .string := by
      unfold isStrT at ht; split at ht <;> simp_all
    simp only [RepT, RepV] at hy
    subst hy
    refine .same (y := .string (s.extract l.toNat hh.toNat)) ?_ (by simp [RepT, RepV]) hk hR
    have hb := run_sliceBounds' (P := P) (isS := false) (len := s.size) (cap := s.size) hlo hhi hl1 hh1 h0 h1 h2
    simp [Instr.sliceAt, Instr.slice, run_underlying hu, hb]
  · rename_i xs
    split at h <;> try exact h.elim
    rename_i l hh e s nb hl1 hh1 he
    obtain ⟨h0, h1, h2, hs, hk⟩ := h
    obtain ⟨i, g1, g2, g3, g4⟩ := elemT_spec he
    simp only [RepT, RepV, Rep] at hy
    obtain ⟨a, cap, cells, k1, k2, k3, kc, k4⟩ := hy
    simp only [List.cons.injEq, and_true] at k1
    subst k1
    have hb := run_sliceBounds' (P := P) (isS := true) (len := xs.length) (cap := cap) hlo hhi hl1 hh1 h0 h1 (by omega)
    refine .same (y := .slice (if cap = l.toNat then a else a.map (·.add (l.toNat * i.size))) (hh.toNat - l.toNat) (cap - l.toNat)) ?_ ?_ hk hR
    · simp [Instr.sliceAt, Instr.slice, run_underlying g1, hb, run_sizeOf' g2]
    · simp only [RepT, RepV, Rep]
      have hlen : ((xs.take hh.toNat).drop l.toNat).length = hh.toNat - l.toNat := by simp; omega
      by_cases he0 : (xs.take hh.toNat).drop l.toNat = []
      · refine ⟨_, cap - l.toNat, [], by rw [hlen], ?_, ?_, by rw [hlen]; omega, .inl he0⟩
        · rw [he0]; simp [Reps]
        · rw [he0]; exact ⟨0, by simp⟩
      · have hne : l.toNat < hh.toNat := by
          rcases Nat.lt_or_ge l.toNat hh.toNat with h' | h'
          · exact h'
          · exact absurd (List.eq_nil_of_length_eq_zero (by rw [hlen]; omega)) he0
        have hcap : ¬ cap = l.toNat := by omega
        rcases k4 with k4 | ⟨b, o, rfl, k6⟩
        · subst k4; simp at he0
        · obtain ⟨c1, c2, f1, f2, f3⟩ := Reps.take k2 hh.toNat
          obtain ⟨d1, d2, e1, e2, e3⟩ := Reps.take f2 l.toNat
          have hd1 : d1.length = l.toNat * i.size := by
            rw [Reps.length _ _ e2, sizes_uniform _ s (fun z hz => hs z (List.mem_of_mem_take (List.mem_of_mem_take hz))), g3]
            congr 1
            simp; omega
          refine ⟨_, cap - l.toNat, d2, by rw [hlen], e3, ⟨s, fun z hz => hs z (List.mem_of_mem_take (List.mem_of_mem_drop hz))⟩, by rw [hlen]; omega, .inr ⟨b, o + l.toNat * i.size, by simp [hcap, add_none], fun q hq => ?_⟩⟩
          have := k6 (l.toNat * i.size + q) (by rw [f1, e1]; simp; omega)
          rw [Nat.add_assoc]
          refine ⟨this.1, this.2.trans ?_⟩
          rw [f1, e1, List.append_assoc, List.getElem?_append_right (by omega), List.getElem?_append_left (by omega)]
          congr 1; omega
  · rename_i b s' i j
    split at h <;> try exact h.elim
    rename_i l hh e s nb hl1 hh1 he
    obtain ⟨hss, h0, h1, h2, hk⟩ := h
    subst hss
    obtain ⟨ti, g1, g2, g3, g4⟩ := elemT_spec he
    simp only [RepT, RepV, Rep] at hy
    obtain ⟨off, cap, k1, k2, k3, k4, T, n, k5, k6⟩ := hy
    simp only [List.cons.injEq, and_true] at k1
    subst k1
    have h2 : hh ≤ cap := by
      rcases h2 with h2 | h2
      · omega
      · exact capped_cap h2 hR k5 k6
    have hb := run_sliceBounds' (P := P) (isS := true) (len := j - i) (cap := cap) hlo hhi hl1 hh1 h0 h1 (by omega)
    refine .same (y := .slice (if cap = l.toNat then some ⟨b, off, none⟩ else (some ⟨b, off, none⟩ : Option Addr).map (·.add (l.toNat * ti.size))) (hh.toNat - l.toNat) (cap - l.toNat)) ?_ ?_ hk hR
    · simp [Instr.sliceAt, Instr.slice, run_underlying g1, hb, run_sizeOf' g2]
    · simp only [RepT, RepV, Rep]
      by_cases hcap : cap = l.toNat
      · refine ⟨off, cap - l.toNat, ?_, by omega, by omega, .inr (by omega), T, n, k5, ?_⟩
        · simp [hcap]; omega
        · rw [← k6]; congr 1; omega
      · refine ⟨off + l.toNat * ti.size, cap - l.toNat, ?_, by omega, by omega, ?_, T, n, k5, ?_⟩
        · simp [hcap, add_none]; omega
        · rcases k4 with k4 | k4
          · left; rw [k4, g3, Nat.add_mul]
          · right; omega
        · rw [← k6]; congr 1; omega
  · split at h <;> try exact h.elim
    rename_i l hh e hl1 hh1 he
    obtain ⟨h0, h1, hk⟩ := h
    subst h0; subst h1
    obtain ⟨ti, g1, g2, g3, g4⟩ := elemT_spec he
    simp only [RepT, RepV] at hy
    subst hy
    have hb := run_sliceBounds' (P := P) (isS := true) (len := 0) (cap := 0) hlo hhi hl1 (by simpa using hh1) (by omega) (by omega) (by omega)
    refine .same (y := .slice none 0 0) ?_ (by simp [RepT, RepV]) hk hR
    simp [Instr.sliceAt, Instr.slice, run_underlying g1, hb, run_sizeOf' g2]

/-! ### counting -/
def lenT (P : Program) (t : TypeId) : Nat := match P.underlying t with | some (.slice _) => 1 | some .string => 2 | some (.map _ _) => 3 | _ => 0

def aLen (P : Program) (t : TypeId) (x : AV) (H : Heap) (K : AV → Heap → Prop) : Prop :=
  match x with
  | .sl l => lenT P t = 1 ∧ K (.v (.int .i64 l.length)) H
  | .slr b s i j => lenT P t = 1 ∧ K (.v (.int .i64 (j - i : Nat))) H
  | .v (.slice none n _) => lenT P t = 1 ∧ K (.v (.int .i64 n)) H
  | .v (.string s) => lenT P t = 2 ∧ K (.v (.int .i64 s.size)) H
  | .mp b => match H b with
    | some (.map es) => lenT P t = 3 ∧ K (.v (.int .i64 es.length)) H
    | _ => False
  | _ => False

theorem lenT_1 {P : Program} {t : TypeId} (h : lenT P t = 1) : ∃ e, P.underlying t = some (.slice e) := by
  unfold lenT at h; split at h <;> simp_all
theorem lenT_2 {P : Program} {t : TypeId} (h : lenT P t = 2) : P.underlying t = some .string := by
  unfold lenT at h; split at h <;> simp_all
theorem lenT_3 {P : Program} {t : TypeId} (h : lenT P t = 3) : ∃ k e, P.underlying t = some (.map k e) := by
  unfold lenT at h; split at h <;> simp_all

theorem MapOk.length {I : Nat → Nat → Prop} {w : World} : ∀ {es : List (Value × AV)} {l : List MapEntry}, MapOk I w es l → l.length = es.length
  | [], l, h => by simp only [MapOk] at h; simp [h]
  | (k, x) :: r, l, h => by
    simp only [MapOk] at h
    obtain ⟨e, es', h1, _, _, h4⟩ := h
    simp [h1, MapOk.length h4]

theorem aLen_ok {P : Program} {t ty : TypeId} {x : AV} {y : Value} {I : Nat → Nat → Prop} {w : World} {H : Heap} {K : AV → Heap → Prop} (h : aLen P t x H K) (hy : RepT I w x y) (hR : Rel I w H) :
    SemOk P (Builtin.len_ #[t] ty #[y]) I w H K := by
  unfold aLen at h
  split at h <;> try exact h.elim
  · obtain ⟨ht, hk⟩ := h
    obtain ⟨e, hu⟩ := lenT_1 ht
    simp only [RepT, RepV, Rep] at hy
    obtain ⟨a, cap, cells, k1, _⟩ := hy
    simp only [List.cons.injEq, and_true] at k1
    subst k1
    exact .same (by simp [Builtin.len_, run_underlying hu]; rfl) (by simp [RepT, RepV, goInt]) hk hR
  · obtain ⟨ht, hk⟩ := h
    obtain ⟨e, hu⟩ := lenT_1 ht
    simp only [RepT, RepV, Rep] at hy
    obtain ⟨off, cap, k1, _⟩ := hy
    simp only [List.cons.injEq, and_true] at k1
    subst k1
    exact .same (by simp [Builtin.len_, run_underlying hu]; rfl) (by simp [RepT, RepV, goInt]) hk hR
  · obtain ⟨ht, hk⟩ := h
    obtain ⟨e, hu⟩ := lenT_1 ht
    simp only [RepT, RepV] at hy
    subst hy
    exact .same (by simp [Builtin.len_, run_underlying hu]; rfl) (by simp [RepT, RepV, goInt]) hk hR
  · obtain ⟨ht, hk⟩ := h
    have hu := lenT_2 ht
    simp only [RepT, RepV] at hy
    subst hy
    exact .same (by simp [Builtin.len_, run_underlying hu]; rfl) (by simp [RepT, RepV, goInt]) hk hR
  · rename_i b
    split at h <;> try exact h.elim
    rename_i es hb
    obtain ⟨ht, hk⟩ := h
    obtain ⟨kt, e, hu⟩ := lenT_3 ht
    simp only [RepT, RepV, Rep, List.cons.injEq, and_true] at hy
    subst hy
    have hres := hR.res b _ hb
    simp only [ResOk] at hres
    obtain ⟨_, a, n, g1, g2⟩ := hres
    have hl := MapOk.length g2
    refine .same (y := goInt a.size) ?_ (by simp [RepT, RepV, goInt, ← hl]) hk hR
    simp [Builtin.len_, run_underlying hu, getObj, Sem.run, g1]

end Go.Flow
