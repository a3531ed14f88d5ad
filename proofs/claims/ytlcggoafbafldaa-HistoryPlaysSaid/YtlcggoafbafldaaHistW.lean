/-
  Two histories side by side: what holds between them, and how it lasts. No condition.
-/
import Derived.Test.YtlcggoafbafldaaHistV
set_option linter.unusedVariables false
set_option linter.unusedSimpArgs false
namespace Go.Flow
open Go Go.Proofs

abbrev Line := List (Step × State)
def endOf : State → Line → State
  | a, [] => a
  | _, x :: r => endOf x.2 r
def Tame (cs : List Change) : Prop := cs.length ≤ 8 ∧ (∀ c ∈ cs, c.Edits.length ≤ 20) ∧ sumC cs ≤ 100000000
def Link (a : State) (x : Step × State) : Prop := x.1.note = x.2.Note ∧ applyC a.L [] x.1.go = (x.2.L, 0) ∧ applyC x.2.L [] x.1.undo = (a.L, 0) ∧ Tame x.1.go ∧ Tame x.1.undo
def Chain : State → Line → Prop
  | _, [] => True
  | a, x :: r => Link a x ∧ Chain x.2 r

theorem chain_append : ∀ (a : State) (P Q : Line), Chain a (P ++ Q) ↔ Chain a P ∧ Chain (endOf a P) Q
  | a, [], Q => by simp [Chain, endOf]
  | a, x :: r, Q => by simp only [List.cons_append, Chain, endOf, chain_append x.2 r Q, and_assoc]
theorem endOf_snoc : ∀ (a : State) (P : Line) (x : Step × State), endOf a (P ++ [x]) = x.2
  | a, [], x => rfl
  | a, y :: r, x => by rw [List.cons_append, endOf, endOf_snoc]
theorem endOf_mem : ∀ (a : State) (P : Line), endOf a P = a ∨ ∃ x ∈ P, x.2 = endOf a P
  | a, [] => .inl rfl
  | a, x :: r => by
    rw [endOf]
    rcases endOf_mem x.2 r with h | ⟨y, h1, h2⟩
    · exact .inr ⟨x, by simp, h.symm⟩
    · exact .inr ⟨y, by simp [h1], h2⟩
theorem past_last (a : State) (P : Line) : ∃ ps, a :: P.map (·.2) = ps ++ [endOf a P] ∧ ps.length = P.length := by
  rcases List.eq_nil_or_concat P with rfl | ⟨Q, x, rfl⟩
  · exact ⟨[], rfl, rfl⟩
  · exact ⟨a :: Q.map (·.2), by rw [List.concat_eq_append, endOf_snoc]; simp, by simp⟩

structure Inv (t : Nat) (a : State) (P N : Line) : Prop where
  chain : Chain a (P ++ N.reverse)
  small : ∀ st, (st = a ∨ ∃ x, (x ∈ P ∨ x ∈ N) ∧ x.2 = st) → Small (500 + 200 * t) st.L ∧ st.L.length ≤ 20
  len : P.length + N.length ≤ 100

theorem Inv.more {t : Nat} {a : State} {P N : Line} (h : Inv t a P N) : Inv (t + 1) a P N :=
  ⟨h.chain, fun st hs => ⟨(h.small st hs).1.le (by omega), (h.small st hs).2⟩, h.len⟩

theorem Inv.cur {t : Nat} {a : State} {P N : Line} (h : Inv t a P N) : Small (500 + 200 * t) (endOf a P).L ∧ (endOf a P).L.length ≤ 20 := by
  refine h.small _ ?_
  rcases endOf_mem a P with e | ⟨x, hx, e⟩
  · exact .inl e
  · exact .inr ⟨x, .inl hx, e⟩

theorem Inv.undo {t : Nat} {a : State} {P N : Line} {x : Step × State} (h : Inv t a (P ++ [x]) N) : Link (endOf a P) x ∧ Inv (t + 1) a P (N ++ [x]) := by
  have hc := h.chain
  rw [List.append_assoc] at hc
  have hc2 := ((chain_append a P _).1 hc).2
  rw [List.singleton_append, Chain] at hc2
  refine ⟨hc2.1, ⟨?_, fun st hs => ?_, by have := h.len; simp at this ⊢; omega⟩⟩
  · rw [List.reverse_append, List.reverse_singleton]; exact hc
  · refine ⟨((h.small st ?_).1).le (by omega), (h.small st ?_).2⟩ <;>
    · rcases hs with hs | ⟨y, hy, hs⟩
      · exact .inl hs
      · refine .inr ⟨y, ?_, hs⟩
        simp only [List.mem_append, List.mem_singleton] at hy ⊢
        rcases hy with hy | hy | hy
        · exact .inl (.inl hy)
        · exact .inr hy
        · exact .inl (.inr hy)

theorem Inv.redo {t : Nat} {a : State} {P N : Line} {x : Step × State} (h : Inv t a P (N ++ [x]))   : Link (endOf a P) x ∧ Inv (t + 1) a (P ++ [x]) N := by
  have hc := h.chain
  rw [List.reverse_append, List.reverse_singleton] at hc
  have hc2 := ((chain_append a P _).1 hc).2
  rw [List.singleton_append, Chain] at hc2
  refine ⟨hc2.1, ⟨?_, fun st hs => ?_, by have := h.len; simp at this ⊢; omega⟩⟩
  · rw [List.append_assoc]; exact hc
  · refine ⟨((h.small st ?_).1).le (by omega), (h.small st ?_).2⟩ <;>
    · rcases hs with hs | ⟨y, hy, hs⟩
      · exact .inl hs
      · refine .inr ⟨y, ?_, hs⟩
        simp only [List.mem_append, List.mem_singleton] at hy ⊢
        rcases hy with (hy | hy) | hy
        · exact .inl hy
        · exact .inr (.inr hy)
        · exact .inr (.inl hy)

theorem Tame.roomy {cs : List Change} {A : Nat} {x : List Mod} (h : Tame cs) (hA : Small A x) (ha : A ≤ 100000) : Roomy x cs := ⟨A, hA, by have := h.2.2; omega⟩

theorem tame_undo {cs : List Change} {A : Nat} {x : List Mod} (h1 : cs.length ≤ 8) (h2 : ∀ c ∈ cs, c.Edits.length ≤ 20) (hA : Small A x) (ha : A ≤ 100000) : Tame (undoOf x cs) := by
  refine ⟨by simpa [undoOf] using h1, fun c hc => ?_, ?_⟩
  · obtain ⟨c0, hc0, rfl⟩ := List.mem_map.1 hc
    simp only [invFrom_length]
    exact h2 c0 hc0
  · have h3 := sumC_undo hA cs h2
    have h4 : cs.length * (20 * A) ≤ 8 * (20 * 100000) := Nat.mul_le_mul h1 (Nat.mul_le_mul_left 20 ha)
    omega

/-- a step is done -/
theorem Inv.done {t : Nat} (ht : t ≤ 250) {a : State} {P N : Line} (h : Inv t a P N) (note : List UInt8) (cs : List Change) (h1 : cs.length ≤ 8) (h2 : ∀ c ∈ cs, c.Edits.length ≤ 20) (h3 : sumC cs ≤ 200)
    (he : (applyC (endOf a P).L [] cs).2 = 0) : ∃ a' P', Inv (t + 1) a' P' [] ∧ (endOf a' P').L = (applyC (endOf a P).L [] cs).1 ∧
      P'.map (·.1) = (if 100 < (P.map (·.1)).length + 1 then (P.map (·.1) ++ [(⟨note, cs, undoOf (endOf a P).L cs⟩ : Step)]).tail else P.map (·.1) ++ [⟨note, cs, undoOf (endOf a P).L cs⟩]) ∧
      a' :: P'.map (·.2) = (if 101 < (a :: P.map (·.2)).length + 1 then ((a :: P.map (·.2)) ++ [(⟨note, (applyC (endOf a P).L [] cs).1⟩ : State)]).tail else (a :: P.map (·.2)) ++ [⟨note, (applyC (endOf a P).L [] cs).1⟩]) := by
  obtain ⟨c1, c2⟩ := h.cur
  have hlink : Link (endOf a P) (⟨note, cs, undoOf (endOf a P).L cs⟩, ⟨note, (applyC (endOf a P).L [] cs).1⟩) :=
    ⟨rfl, by simp only; rw [← he], applyC_undone cs _ [] he, ⟨h1, h2, by simp only; omega⟩, tame_undo h1 h2 c1 (by omega)⟩
  have hch := ((chain_append a P _).1 h.chain).1
  have hnew : Small (500 + 200 * (t + 1)) (applyC (endOf a P).L [] cs).1 ∧ (applyC (endOf a P).L [] cs).1.length ≤ 20 :=
    ⟨(applyC_small cs _ [] _ c1 he).le (by omega), by rw [applyC_length he]; exact c2⟩
  generalize hx : ((⟨note, cs, undoOf (endOf a P).L cs⟩, ⟨note, (applyC (endOf a P).L [] cs).1⟩) : Step × State) = x at hlink
  have hx1 : (⟨note, cs, undoOf (endOf a P).L cs⟩ : Step) = x.1 := by rw [← hx]
  have hx2 : (⟨note, (applyC (endOf a P).L [] cs).1⟩ : State) = x.2 := by rw [← hx]
  have hx3 : (applyC (endOf a P).L [] cs).1 = x.2.L := by rw [← hx]
  have hall : Chain a (P ++ [x]) := (chain_append a P [x]).2 ⟨hch, hlink, trivial⟩
  rw [hx3] at hnew
  rw [hx1, hx2, hx3]
  have hsm : ∀ st, (st = a ∨ ∃ y, (y ∈ P ++ [x]) ∧ y.2 = st) → Small (500 + 200 * (t + 1)) st.L ∧ st.L.length ≤ 20 := fun st hs => by
    rcases hs with hs | ⟨y, hy, hs⟩
    · exact ⟨(h.small st (.inl hs)).1.le (by omega), (h.small st (.inl hs)).2⟩
    · rcases List.mem_append.1 hy with hy | hy
      · exact ⟨(h.small st (.inr ⟨y, .inl hy, hs⟩)).1.le (by omega), (h.small st (.inr ⟨y, .inl hy, hs⟩)).2⟩
      · rw [List.mem_singleton] at hy; subst hy; rw [← hs]; exact hnew
  by_cases hlt : 100 < P.length + 1
  · cases P with
    | nil => simp at hlt
    | cons y P1 =>
      refine ⟨y.2, P1 ++ [x], ⟨?_, fun st hs => ?_, by have := h.len; simp at this ⊢; omega⟩, ?_, ?_, ?_⟩
      · rw [List.cons_append] at hall
        simpa using hall.2
      · refine hsm st ?_
        rcases hs with hs | ⟨z, hz, hs⟩
        · exact .inr ⟨y, by simp, hs.symm⟩
        · exact .inr ⟨z, by simpa using .inr (by simpa using hz), hs⟩
      · rw [endOf_snoc]
      · rw [if_pos (by simpa using hlt)]; simp
      · rw [if_pos (by simp at hlt ⊢; omega)]; simp
  · refine ⟨a, P ++ [x], ⟨by simpa using hall, fun st hs => hsm st ?_, by simp; omega⟩, by rw [endOf_snoc], ?_, ?_⟩
    · rcases hs with hs | ⟨z, hz, hs⟩
      · exact .inl hs
      · exact .inr ⟨z, by simpa using hz, hs⟩
    · rw [if_neg (by simpa using hlt)]; simp
    · rw [if_neg (by simp at hlt ⊢; omega)]; simp

/-! ### in memory -/
structure Two (H0 : Heap) (F1 F2 : Nat → Prop) (H : Heap) : Prop where
  apart : ∀ d, F1 d → ¬ F2 d
  base : ∀ d, F1 d ∨ F2 d → H0 d = none
  le : Heap.le H0 H

theorem Two.left {H0 H H1 : Heap} {F1 F2 F1' : Nat → Prop} (h : Two H0 F1 F2 H) (hm : Moved F1 F1' H H1) (h2 : ∀ d, F2 d → ∃ r, H d = some r) : Two H0 F1' F2 H1 where
  apart d hd hf := by
    rcases hm.1 d hd with h' | h'
    · exact h.apart d h' hf
    · obtain ⟨r, hr⟩ := h2 d hf; rw [h'] at hr; cases hr
  base d hd := by
    rcases hd with hd | hd
    · rcases hm.1 d hd with h' | h'
      · exact h.base d (.inl h')
      · cases e : H0 d with
        | none => rfl
        | some r => rw [h.le d r e] at h'; cases h'
    · exact h.base d (.inr hd)
  le d r hr := hm.2 d r (h.le d r hr) fun hf => by rw [h.base d (.inl hf)] at hr; cases hr

theorem Two.flip {H0 H : Heap} {F1 F2 : Nat → Prop} (h : Two H0 F1 F2 H) : Two H0 F2 F1 H := ⟨fun d h1 h2 => h.apart d h2 h1, fun d hd => h.base d hd.symm, h.le⟩

theorem RAt.other {N : Nat} {H H1 : Heap} {b : Nat} {past next : List State} {F F1 F1' : Nat → Prop} (h : RAt N H b past next F) (hm : Moved F1 F1' H H1) (hd : ∀ d, F1 d → ¬ F d) : RAt N H1 b past next F :=
  h.keep fun d r hF hr => hm.2 d r hr fun h1 => hd d h1 hF
theorem PAt.other {N : Nat} {H H1 : Heap} {b : Nat} {now : List Mod} {past next : List Step} {F F1 F1' : Nat → Prop} (h : PAt N H b now past next F) (hm : Moved F1 F1' H H1) (hd : ∀ d, F1 d → ¬ F d) : PAt N H1 b now past next F :=
  h.keep fun d r hF hr => hm.2 d r hr fun h1 => hd d h1 hF
theorem RAt.grow {N M : Nat} {H : Heap} {b : Nat} {past next : List State} {F : Nat → Prop} (h : RAt N H b past next F) (hm : N ≤ M) : RAt M H b past next F := by
  obtain ⟨p, q, h1, h2, h3, h4⟩ := h
  exact ⟨p, q, h1, h2.grow hm, h3.grow hm, h4⟩
theorem PAt.grow {N M : Nat} {H : Heap} {b : Nat} {now : List Mod} {past next : List Step} {F : Nat → Prop} (h : PAt N H b now past next F) (hm : N ≤ M) : PAt M H b now past next F := by
  obtain ⟨p, q, h1, h2, h3, h4⟩ := h
  exact ⟨p, q, h1, h2.grow hm, h3.grow hm, h4⟩

/-- the loop's state -/
def LoopSt (H0 : Heap) (b1 b2 k : Nat) (H : Heap) : Prop :=
  ∃ a P N F1 F2, Inv k a P N ∧ PAt (200 + k) H b1 (endOf a P).L (P.map (·.1)) (N.map (·.1)) F1 ∧ RAt (200 + k) H b2 (a :: P.map (·.2)) (N.map (·.2)) F2 ∧ Two H0 F1 F2 H

/-- the program's history has moved, the reference's has not -/
def Mid (Rl : State → Line → Line → State → Line → Line → Prop) (H0 : Heap) (b1 b2 k : Nat) (H : Heap) : Prop :=
  ∃ a P N a' P' N' F1 F2, Rl a P N a' P' N' ∧ Inv k a P N ∧ Inv (k + 1) a' P' N' ∧ PAt (200 + (k + 1)) H b1 (endOf a' P').L (P'.map (·.1)) (N'.map (·.1)) F1 ∧ RAt (200 + k) H b2 (a :: P.map (·.2)) (N.map (·.2)) F2 ∧ Two H0 F1 F2 H

def UndoRel (note : List UInt8) (e : Int) (a : State) (P N : Line) (a' : State) (P' N' : Line) : Prop :=
  a' = a ∧ ((P = [] ∧ P' = [] ∧ N' = N ∧ note = [] ∧ e = 3) ∨ ∃ x, P = P' ++ [x] ∧ N' = N ++ [x] ∧ note = x.2.Note ∧ e = 0)
def RedoRel (note : List UInt8) (e : Int) (a : State) (P N : Line) (a' : State) (P' N' : Line) : Prop :=
  a' = a ∧ ((N = [] ∧ N' = [] ∧ P' = P ∧ note = [] ∧ e = 3) ∨ ∃ x, N = N' ++ [x] ∧ P' = P ++ [x] ∧ note = x.2.Note ∧ e = 0)

theorem undo_p {H0 H : Heap} {b1 b2 k : Nat} (hk : k < 250) (h : LoopSt H0 b1 b2 k H) (K : AV → Heap → Prop) (hK : ∀ note e H1, Mid (UndoRel note e) H0 b1 b2 k H1 → K (.tup [str note, int e]) H1) : ACalls Try.prog 11 [.bp b1 0 []] H K := by
  obtain ⟨a, P, N, F1, F2, hI, hP, hR, hT⟩ := h
  rcases List.eq_nil_or_concat P with rfl | ⟨Q, x, rfl⟩
  · exact p11o hP K (hK _ _ H ⟨a, [], N, a, [], N, F1, F2, ⟨rfl, .inl ⟨rfl, rfl, rfl, rfl, rfl⟩⟩, hI, hI.more, hP.grow (by omega), hR, hT⟩)
  · rw [List.concat_eq_append] at hI hP hR
    obtain ⟨hL, hI'⟩ := hI.undo
    obtain ⟨c1, c2⟩ := hI.cur
    have hP' : PAt (200 + k) H b1 x.2.L (Q.map (·.1) ++ [x.1]) (N.map (·.1)) F1 := by rw [endOf_snoc] at hP; simpa using hP
    rw [endOf_snoc] at c1 c2
    have ht := hL.2.2.2.2
    refine p11s (by omega) hP' (by omega) (by have := ht.1; omega) (fun c hc => by have := ht.2.1 c hc; omega) (ht.roomy c1 (by omega)) hL.2.2.1 K fun F' H1 g1 g2 => ?_
    rw [hL.1]
    exact hK _ _ H1 ⟨a, Q ++ [x], N, a, Q, N ++ [x], F', F2, ⟨rfl, .inr ⟨x, rfl, rfl, rfl, rfl⟩⟩, hI, hI', by simpa [← Nat.add_assoc] using g1, hR.other g2 hT.apart, hT.left g2 fun d hd => hR.has hd⟩

theorem undo_r {H0 H : Heap} {b1 b2 k : Nat} (hk : k < 250) {note : List UInt8} {e : Int} (h : Mid (UndoRel note e) H0 b1 b2 k H) (K : AV → Heap → Prop) (hK : ∀ H1, LoopSt H0 b1 b2 (k + 1) H1 → K (.tup [str note, int e]) H1) : ACalls Try.prog 12 [.bp b2 0 []] H K := by
  obtain ⟨a, P, N, a', P', N', F1, F2, ⟨rfl, hr⟩, hI, hI', hP, hR, hT⟩ := h
  rcases hr with ⟨rfl, rfl, rfl, rfl, rfl⟩ | ⟨x, rfl, rfl, rfl, rfl⟩
  · exact r12o hR K (hK H ⟨a', [], N', F1, F2, hI', hP, hR.grow (by omega), hT⟩)
  · have hR' : RAt (200 + k) H b2 ((a' :: P'.map (·.2)) ++ [x.2]) (N.map (·.2)) F2 := by simpa using hR
    refine r12s (by omega) hR' (by simp) K fun F' H1 g1 g2 => ?_
    exact hK H1 ⟨a', P', N ++ [x], F1, F', hI', hP.other g2 hT.flip.apart, by simpa [← Nat.add_assoc] using g1, (hT.flip.left g2 fun d hd => hP.has hd).flip⟩

theorem redo_p {H0 H : Heap} {b1 b2 k : Nat} (hk : k < 250) (h : LoopSt H0 b1 b2 k H) (K : AV → Heap → Prop) (hK : ∀ note e H1, Mid (RedoRel note e) H0 b1 b2 k H1 → K (.tup [str note, int e]) H1) : ACalls Try.prog 13 [.bp b1 0 []] H K := by
  obtain ⟨a, P, N, F1, F2, hI, hP, hR, hT⟩ := h
  rcases List.eq_nil_or_concat N with rfl | ⟨M, x, rfl⟩
  · exact p13o hP K (hK _ _ H ⟨a, P, [], a, P, [], F1, F2, ⟨rfl, .inl ⟨rfl, rfl, rfl, rfl, rfl⟩⟩, hI, hI.more, hP.grow (by omega), hR, hT⟩)
  · rw [List.concat_eq_append] at hI hP hR
    obtain ⟨hL, hI'⟩ := hI.redo
    obtain ⟨c1, c2⟩ := hI.cur
    have hP' : PAt (200 + k) H b1 (endOf a P).L (P.map (·.1)) (M.map (·.1) ++ [x.1]) F1 := by simpa using hP
    have ht := hL.2.2.2.1
    refine p13s (by omega) hP' (by omega) (by have := ht.1; omega) (fun c hc => by have := ht.2.1 c hc; omega) (ht.roomy c1 (by omega)) hL.2.1 K fun F' H1 g1 g2 => ?_
    rw [hL.1]
    exact hK _ _ H1 ⟨a, P, M ++ [x], a, P ++ [x], M, F', F2, ⟨rfl, .inr ⟨x, rfl, rfl, rfl, rfl⟩⟩, hI, hI', by rw [endOf_snoc]; simpa [← Nat.add_assoc] using g1, hR.other g2 hT.apart, hT.left g2 fun d hd => hR.has hd⟩

theorem redo_r {H0 H : Heap} {b1 b2 k : Nat} (hk : k < 250) {note : List UInt8} {e : Int} (h : Mid (RedoRel note e) H0 b1 b2 k H) (K : AV → Heap → Prop) (hK : ∀ H1, LoopSt H0 b1 b2 (k + 1) H1 → K (.tup [str note, int e]) H1) : ACalls Try.prog 14 [.bp b2 0 []] H K := by
  obtain ⟨a, P, N, a', P', N', F1, F2, ⟨rfl, hr⟩, hI, hI', hP, hR, hT⟩ := h
  rcases hr with ⟨rfl, rfl, rfl, rfl, rfl⟩ | ⟨x, rfl, rfl, rfl, rfl⟩
  · exact r14o hR K (hK H ⟨a', P', [], F1, F2, hI', hP, hR.grow (by omega), hT⟩)
  · have hR' : RAt (200 + k) H b2 (a' :: P.map (·.2)) (N'.map (·.2) ++ [x.2]) F2 := by simpa using hR
    refine r14s (by omega) hR' (by simp) (by have := hI.len; simp; omega) K fun F' H1 g1 g2 => ?_
    exact hK H1 ⟨a', P ++ [x], N', F1, F', hI', hP.other g2 hT.flip.apart, by simpa [← Nat.add_assoc] using g1, (hT.flip.left g2 fun d hd => hP.has hd).flip⟩

def DoRel (note : List UInt8) (cs : List Change) (e : Int) (a : State) (P N : Line) (a' : State) (P' N' : Line) : Prop :=
  (a' = a ∧ P' = P ∧ N' = N ∧ e ≠ 0 ∧ e = (applyC (endOf a P).L [] cs).2) ∨
  (e = 0 ∧ (applyC (endOf a P).L [] cs).2 = 0 ∧ N' = [] ∧ a' :: P'.map (·.2) = (if 101 < (a :: P.map (·.2)).length + 1 then ((a :: P.map (·.2)) ++ [(⟨note, (applyC (endOf a P).L [] cs).1⟩ : State)]).tail else (a :: P.map (·.2)) ++ [⟨note, (applyC (endOf a P).L [] cs).1⟩]))

theorem do_p {H0 H : Heap} {b1 b2 k : Nat} (hk : k < 250) (h : LoopSt H0 b1 b2 k H) (note : List UInt8) (cs : List Change) (h1 : cs.length ≤ 8) (h2 : ∀ c ∈ cs, c.Edits.length ≤ 20) (h3 : sumC cs ≤ 200)
    (K : AV → Heap → Prop) (hK : ∀ e H1, Mid (DoRel note cs e) H0 b1 b2 k H1 → K (int e) H1) : ACalls Try.prog 9 [.bp b1 0 [], str note, .sl (cs.map eChange)] H K := by
  obtain ⟨a, P, N, F1, F2, hI, hP, hR, hT⟩ := h
  obtain ⟨c1, c2⟩ := hI.cur
  have hct : ∀ c ∈ cs, ∀ x ∈ c.Edits, x.Text.length ≤ 140737488355328 := fun c hc x hx => by
    have g1 := sumT_mem hx
    have g2 : sumT c.Edits ≤ sumC cs := by
      clear h1 h2 h3 hK
      induction cs with
      | nil => cases hc
      | cons y r ih =>
        rw [sumC]
        rcases List.mem_cons.1 hc with rfl | hc
        · omega
        · have := ih hc; omega
    omega
  have hfit : (applyC (endOf a P).L [] cs).2 = 0 → Fit (endOf a P).L cs := fun he c hc => by
    obtain ⟨-, i, m, g1, g2, g3, g4⟩ := applyC_fit cs _ [] he c hc
    exact ⟨i, m, g1, g2, by have := c1 m (List.mem_of_getElem? g2); omega, g4⟩
  refine p9 (by omega) hP note cs (by omega) (by omega) (fun c hc => by have := h2 c hc; omega) hct (Tame.roomy (cs := cs) ⟨h1, h2, by omega⟩ c1 (by omega)) hfit K (fun he => ?_) fun he F' H1 g1 g2 => ?_
  · exact hK _ H ⟨a, P, N, a, P, N, F1, F2, .inl ⟨rfl, rfl, rfl, he, rfl⟩, hI, hI.more, hP.grow (by omega), hR, hT⟩
  · obtain ⟨a', P', i1, i2, i3, i4⟩ := hI.done (by omega) note cs h1 h2 h3 he
    rw [← i3, ← i2] at g1
    exact hK 0 H1 ⟨a, P, N, a', P', [], F', F2, .inr ⟨rfl, he, rfl, i4⟩, hI, i1, g1, hR.other g2 hT.apart, hT.left g2 fun d hd => hR.has hd⟩

theorem do_r {H0 H : Heap} {b1 b2 k : Nat} (hk : k < 250) {note : List UInt8} {cs : List Change} {e : Int} (h : Mid (DoRel note cs e) H0 b1 b2 k H) (h1 : cs.length ≤ 8) (h2 : ∀ c ∈ cs, c.Edits.length ≤ 20) (h3 : sumC cs ≤ 200)
    (K : AV → Heap → Prop) (hK : ∀ H1, LoopSt H0 b1 b2 (k + 1) H1 → K (int e) H1) : ACalls Try.prog 10 [.bp b2 0 [], str note, .sl (cs.map eChange)] H K := by
  obtain ⟨a, P, N, a', P', N', F1, F2, hr, hI, hI', hP, hR, hT⟩ := h
  obtain ⟨c1, c2⟩ := hI.cur
  obtain ⟨ps, e1, e2⟩ := past_last a P
  have hR' : RAt (200 + k) H b2 (ps ++ [endOf a P]) (N.map (·.2)) F2 := by rw [← e1]; exact hR
  refine r10 (by omega) hR' note cs (by omega) (by omega) (fun c hc => by have := h2 c hc; omega) (Tame.roomy (cs := cs) ⟨h1, h2, by omega⟩ c1 (by omega)) K (fun he => ?_) fun he F' H1 g1 g2 => ?_
  · rcases hr with ⟨rfl, rfl, rfl, he0, rfl⟩ | ⟨rfl, he0, _⟩
    · exact hK H ⟨a', P', N', F1, F2, hI', hP, hR.grow (by omega), hT⟩
    · exact absurd he0 he
  · rcases hr with ⟨rfl, rfl, rfl, he0, rfl⟩ | ⟨rfl, he0, rfl, h5⟩
    · exact absurd he he0
    · rw [← e1, ← h5] at g1
      exact hK H1 ⟨a', P', [], F1, F', hI', hP.other g2 hT.flip.apart, g1, (hT.flip.left g2 fun d hd => hP.has hd).flip⟩

theorem LoopSt.more {H0 H : Heap} {b1 b2 k : Nat} (h : LoopSt H0 b1 b2 k H) : LoopSt H0 b1 b2 (k + 1) H := by
  obtain ⟨a, P, N, F1, F2, hI, hP, hR, hT⟩ := h
  exact ⟨a, P, N, F1, F2, hI.more, hP.grow (by omega), hR.grow (by omega), hT⟩

theorem LoopSt.le {H0 H H1 : Heap} {b1 b2 k : Nat} (h : LoopSt H0 b1 b2 k H) (hle : Heap.le H H1) : LoopSt H0 b1 b2 k H1 := by
  obtain ⟨a, P, N, F1, F2, hI, hP, hR, hT⟩ := h
  exact ⟨a, P, N, F1, F2, hI, hP.keep fun d r _ hr => hle d r hr, hR.keep fun d r _ hr => hle d r hr, ⟨hT.apart, hT.base, fun d r hr => hle d r (hT.le d r hr)⟩⟩

/-- the notes of a line are the states' -/
theorem notes_line : ∀ (a : State) (P : Line), Chain a P → P.map (fun x => x.1.note) = P.map (fun x => x.2.Note)
  | _, [], _ => rfl
  | a, x :: r, h => by rw [List.map_cons, List.map_cons, h.1.1, notes_line x.2 r h.2]
theorem Chain.link : ∀ {a : State} {P : Line}, Chain a P → ∀ x ∈ P, x.1.note = x.2.Note
  | _, _ :: _, h, x, hx => by
    rcases List.mem_cons.1 hx with rfl | hx
    · exact h.1.1
    · exact Chain.link h.2 x hx
theorem Inv.note {t : Nat} {a : State} {P N : Line} (h : Inv t a P N) : ∀ x, x ∈ P ∨ x ∈ N → x.1.note = x.2.Note := fun x hx => h.chain.link x (by simpa using hx)

end Go.Flow

