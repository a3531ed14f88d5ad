/-
  Histories in memory, step by step: the program's and the reference's. No condition.
-/
import Derived.Test.YtlcggoafbafldaaHistO
import Derived.Test.YtlcggoafbafldaaHistT
import Derived.Test.YtlcggoafbafldaaHistU
set_option linter.unusedVariables false
set_option linter.unusedSimpArgs false
namespace Go.Flow
open Go Go.Proofs

/-- what lay outside F is as it was; what is used now was used before, or was free -/
def Moved (F F' : Nat → Prop) (H H' : Heap) : Prop := (∀ d, F' d → F d ∨ H d = none) ∧ ∀ d r, H d = some r → ¬ F d → H' d = some r

/-- the program's history at b -/
def PAt (N : Nat) (H : Heap) (b : Nat) (now : List Mod) (past next : List Step) (F : Nat → Prop) : Prop :=
  ∃ p q, H b = some (.box (.agg [.sl (now.map eMod), p, q])) ∧ Stk eStep 3 N H past p ∧ Stk eStep 3 N H next q ∧ ¬ blk p b ∧ ¬ blk q b ∧ (∀ d, blk p d → ¬ blk q d) ∧ ∀ d, F d ↔ d = b ∨ blk p d ∨ blk q d

/-- the reference's history at b -/
def RAt (N : Nat) (H : Heap) (b : Nat) (past next : List State) (F : Nat → Prop) : Prop :=
  ∃ p q, H b = some (.box (.agg [p, q])) ∧ Stk eState 2 N H past p ∧ Stk eState 2 N H next q ∧ ¬ blk p b ∧ ¬ blk q b ∧ (∀ d, blk p d → ¬ blk q d) ∧ ∀ d, F d ↔ d = b ∨ blk p d ∨ blk q d

theorem Stk.keep {α : Type} {e : α → AV} {s N : Nat} {H H' : Heap} {l : List α} {x : AV} (h : Stk e s N H l x) (hk : ∀ d r, blk x d → H d = some r → H' d = some r) : Stk e s N H' l x := by
  rcases h with h | ⟨b, i, row, h1, h2, h3⟩
  · exact .inl h
  · exact .inr ⟨b, i, row, hk _ _ ⟨_, _, _, h2⟩ h1, h2, h3⟩

theorem Stk.grow {α : Type} {e : α → AV} {s N M : Nat} {H : Heap} {l : List α} {x : AV} (h : Stk e s N H l x) (hm : N ≤ M) : Stk e s M H l x := by
  rcases h with h | ⟨b, i, row, h1, h2, h3, h4, h5⟩
  · exact .inl h
  · exact .inr ⟨b, i, row, h1, h2, h3, h4, by omega⟩

theorem Stk.has {α : Type} {e : α → AV} {s N : Nat} {H : Heap} {l : List α} {x : AV} (h : Stk e s N H l x) {d : Nat} (hd : blk x d) : ∃ r, H d = some r := by
  rcases h with ⟨-, rfl⟩ | ⟨b, i, row, h1, rfl, h3⟩
  · obtain ⟨_, _, _, h⟩ := hd; cases h
  · obtain ⟨_, _, _, h⟩ := hd; cases h; exact ⟨_, h1⟩

theorem Stk.form {α : Type} {e : α → AV} {s N : Nat} {H : Heap} {l : List α} {x : AV} (h : Stk e s N H l x) : x = .v (.slice none 0 0) ∨ ∃ d i j, x = .slr d s i j := by
  rcases h with ⟨-, rfl⟩ | ⟨b, i, row, h1, rfl, h3⟩
  · exact .inl rfl
  · exact .inr ⟨_, _, _, rfl⟩

theorem PAt.keep {N : Nat} {H H' : Heap} {b : Nat} {now : List Mod} {past next : List Step} {F : Nat → Prop} (h : PAt N H b now past next F) (hk : ∀ d r, F d → H d = some r → H' d = some r) : PAt N H' b now past next F := by
  obtain ⟨p, q, h1, h2, h3, h4, h5, h6, h7⟩ := h
  exact ⟨p, q, hk _ _ ((h7 b).2 (.inl rfl)) h1, h2.keep fun d r hd => hk d r ((h7 d).2 (.inr (.inl hd))), h3.keep fun d r hd => hk d r ((h7 d).2 (.inr (.inr hd))), h4, h5, h6, h7⟩

theorem RAt.keep {N : Nat} {H H' : Heap} {b : Nat} {past next : List State} {F : Nat → Prop} (h : RAt N H b past next F) (hk : ∀ d r, F d → H d = some r → H' d = some r) : RAt N H' b past next F := by
  obtain ⟨p, q, h1, h2, h3, h4, h5, h6, h7⟩ := h
  exact ⟨p, q, hk _ _ ((h7 b).2 (.inl rfl)) h1, h2.keep fun d r hd => hk d r ((h7 d).2 (.inr (.inl hd))), h3.keep fun d r hd => hk d r ((h7 d).2 (.inr (.inr hd))), h4, h5, h6, h7⟩

theorem PAt.has {N : Nat} {H : Heap} {b : Nat} {now : List Mod} {past next : List Step} {F : Nat → Prop} (h : PAt N H b now past next F) {d : Nat} (hd : F d) : ∃ r, H d = some r := by
  obtain ⟨p, q, h1, h2, h3, h4, h5, h6, h7⟩ := h
  rcases (h7 d).1 hd with rfl | hd | hd
  · exact ⟨_, h1⟩
  · exact h2.has hd
  · exact h3.has hd

theorem RAt.has {N : Nat} {H : Heap} {b : Nat} {past next : List State} {F : Nat → Prop} (h : RAt N H b past next F) {d : Nat} (hd : F d) : ∃ r, H d = some r := by
  obtain ⟨p, q, h1, h2, h3, h4, h5, h6, h7⟩ := h
  rcases (h7 d).1 hd with rfl | hd | hd
  · exact ⟨_, h1⟩
  · exact h2.has hd
  · exact h3.has hd

/-- the last place of a stack -/
theorem Stk.top {α : Type} {e : α → AV} {s N : Nat} {H : Heap} {l : List α} {y : α} {x : AV} (h : Stk e s N H (l ++ [y]) x) :
    ∃ (b i : Nat) (row : List α), H b = some (.arr s (row.map e)) ∧ x = .slr b s i (i + (l.length + 1)) ∧ i + (l.length + 1) ≤ row.length ∧ row[i + l.length]? = some y ∧ (row.drop i).take l.length = l ∧ row.length ≤ N := by
  rcases h with ⟨h, -⟩ | ⟨b, i, row, h1, h2, h3, h4, h5⟩
  · simp at h
  · rw [List.length_append, List.length_singleton] at h2 h3
    have h6 : row[i + l.length]? = some y := by
      have := Stk.get (k := l.length) h4 (by simp)
      rw [this]; simp
    refine ⟨b, i, row, h1, h2, h3, h6, ?_, h5⟩
    have := congrArg (List.take l.length) h4
    rw [List.take_take, List.length_append, Nat.min_eq_left (by omega), List.take_left] at this
    exact this

theorem blk_slr {b s i j d : Nat} : blk (.slr b s i j) d ↔ d = b := ⟨fun ⟨_, _, _, h⟩ => by cases h; rfl, fun h => by subst h; exact ⟨_, _, _, rfl⟩⟩
theorem blk_nil {d : Nat} {v : Value} : ¬ blk (.v v) d := fun ⟨_, _, _, h⟩ => by cases h

/-! ### the program's steps -/
theorem p15 {N : Nat} (hN : N ≤ 100000) {H : Heap} {b : Nat} {now : List Mod} {past next : List Step} {F : Nat → Prop} (h : PAt N H b now past next F) (K : AV → Heap → Prop)
    (hk : K (.tup [.sl ((past.map (·.note)).map str), .sl ((next.map (·.note)).map str)]) H) : ACalls Try.prog 15 [.bp b 0 []] H K := by
  obtain ⟨p, q, h1, h2, h3, h4, h5, h6, h7⟩ := h
  exact c15 b now past next p q N hN H h1 h2 h3 K hk

theorem p17 {N : Nat} {H : Heap} {b : Nat} {now : List Mod} {past next : List Step} {F : Nat → Prop} (h : PAt N H b now past next F) (hl : now.length ≤ 1000000000000) (K : AV → Heap → Prop)
    (hk : K (.sl (now.map eMod)) H) : ACalls Try.prog 17 [.bp b 0 []] H K := by
  obtain ⟨p, q, h1, h2, h3, h4, h5, h6, h7⟩ := h
  exact c17 b now p q hl H h1 K hk

theorem p11o {N : Nat} {H : Heap} {b : Nat} {now : List Mod} {next : List Step} {F : Nat → Prop} (h : PAt N H b now [] next F) (K : AV → Heap → Prop) (hk : K (.tup [str [], int 3]) H) : ACalls Try.prog 11 [.bp b 0 []] H K := by
  obtain ⟨p, q, h1, h2, h3, h4, h5, h6, h7⟩ := h
  have hq : q.size = 1 := by rcases h3.form with rfl | ⟨d, i, j, rfl⟩ <;> rfl
  rcases h2 with ⟨-, rfl⟩ | ⟨pb, pi, row, g1, rfl, g3⟩
  · exact c11o b 0 0 now _ (.inl rfl) q hq H h1 K hk
  · exact c11o b pb pi now _ (.inr rfl) q hq H h1 K hk

theorem p13o {N : Nat} {H : Heap} {b : Nat} {now : List Mod} {past : List Step} {F : Nat → Prop} (h : PAt N H b now past [] F) (K : AV → Heap → Prop) (hk : K (.tup [str [], int 3]) H) : ACalls Try.prog 13 [.bp b 0 []] H K := by
  obtain ⟨p, q, h1, h2, h3, h4, h5, h6, h7⟩ := h
  have hp : p.size = 1 := by rcases h2.form with rfl | ⟨d, i, j, rfl⟩ <;> rfl
  rcases h3 with ⟨-, rfl⟩ | ⟨pb, pi, row, g1, rfl, g3⟩
  · exact c13o b 0 0 now _ (.inl rfl) p hp H h1 K hk
  · exact c13o b pb pi now _ (.inr rfl) p hp H h1 K hk

theorem p11s {N : Nat} (hN : N ≤ 100000) {H : Heap} {b : Nat} {now : List Mod} {ps next : List Step} {st : Step} {F : Nat → Prop} (h : PAt N H b now (ps ++ [st]) next F)
    (hl : now.length ≤ 1000000) (hcl : st.undo.length ≤ 1000000) (hce : ∀ c ∈ st.undo, c.Edits.length ≤ 1000000) (hroom : Roomy now st.undo) {was : List Mod} (he : applyC now [] st.undo = (was, 0))
    (K : AV → Heap → Prop) (hk : ∀ F' H', PAt (N + 1) H' b was ps (next ++ [st]) F' → Moved F F' H H' → K (.tup [str st.note, int 0]) H') : ACalls Try.prog 11 [.bp b 0 []] H K := by
  obtain ⟨p, q, h1, h2, h3, h4, h5, h6, h7⟩ := h
  obtain ⟨pb, pi, row, g1, rfl, g3, g4, g5, g6⟩ := h2.top
  have hpb : pb ≠ b := fun e => h4 (blk_slr.2 e.symm)
  refine c11s edit34 N hN b pb pi now row ps next st q H h1 g1 g3 g4 h3 (h6 pb (blk_slr.2 rfl)) (by omega) hl hcl hce hroom (by rw [he]) K fun x' H' k1 k2 k3 k4 k5 => ?_
  rw [he] at k1
  have hnew : ∀ d, blk x' d → d ≠ b ∧ d ≠ pb := fun d hd => by
    rcases k4 d hd with h | h
    · exact ⟨fun e => h5 (e ▸ h), fun e => h6 pb (blk_slr.2 rfl) (e ▸ h)⟩
    · exact ⟨fun e => (by subst e; rw [h1] at h; cases h), fun e => (by subst e; rw [g1] at h; cases h)⟩
  refine hk (fun d => d = b ∨ d = pb ∨ blk x' d) H' ⟨_, _, k1, .inr ⟨pb, pi, row, k2, rfl, by omega, g5, by omega⟩, k3, fun h => hpb (blk_slr.1 h).symm, fun h => (hnew b h).1 rfl, fun d hd hx => (hnew d hx).2 (blk_slr.1 hd), fun d => by rw [blk_slr]⟩ ⟨fun d hd => ?_, fun d r hd hF => ?_⟩
  · rcases hd with hd | hd | hd
    · exact .inl ((h7 d).2 (.inl hd))
    · exact .inl ((h7 d).2 (.inr (.inl (blk_slr.2 hd))))
    · rcases k4 d hd with h | h
      · exact .inl ((h7 d).2 (.inr (.inr h)))
      · exact .inr h
  · exact k5 d r hd (fun e => hF ((h7 d).2 (.inl e))) (fun e => hF ((h7 d).2 (.inr (.inr e))))

theorem p13s {N : Nat} (hN : N ≤ 100000) {H : Heap} {b : Nat} {now : List Mod} {past ns : List Step} {st : Step} {F : Nat → Prop} (h : PAt N H b now past (ns ++ [st]) F)
    (hl : now.length ≤ 1000000) (hcl : st.go.length ≤ 1000000) (hce : ∀ c ∈ st.go, c.Edits.length ≤ 1000000) (hroom : Roomy now st.go) {was : List Mod} (he : applyC now [] st.go = (was, 0))
    (K : AV → Heap → Prop) (hk : ∀ F' H', PAt (N + 1) H' b was (past ++ [st]) ns F' → Moved F F' H H' → K (.tup [str st.note, int 0]) H') : ACalls Try.prog 13 [.bp b 0 []] H K := by
  obtain ⟨p, q, h1, h2, h3, h4, h5, h6, h7⟩ := h
  obtain ⟨pb, pi, row, g1, rfl, g3, g4, g5, g6⟩ := h3.top
  have hpb : pb ≠ b := fun e => h5 (blk_slr.2 e.symm)
  have h6' : ¬ blk p pb := fun h => h6 pb h (blk_slr.2 rfl)
  refine c13s edit34 N hN b pb pi now row ns past st p H h1 g1 g3 g4 h2 h6' (by omega) hl hcl hce hroom (by rw [he]) K fun x' H' k1 k2 k3 k4 k5 => ?_
  rw [he] at k1
  have hnew : ∀ d, blk x' d → d ≠ b ∧ d ≠ pb := fun d hd => by
    rcases k4 d hd with h | h
    · exact ⟨fun e => h4 (e ▸ h), fun e => h6' (e ▸ h)⟩
    · exact ⟨fun e => (by subst e; rw [h1] at h; cases h), fun e => (by subst e; rw [g1] at h; cases h)⟩
  refine hk (fun d => d = b ∨ blk x' d ∨ d = pb) H' ⟨_, _, k1, k3, .inr ⟨pb, pi, row, k2, rfl, by omega, g5, by omega⟩, fun h => (hnew b h).1 rfl, fun h => hpb (blk_slr.1 h).symm, fun d hd hx => (hnew d hd).2 (blk_slr.1 hx), fun d => by rw [blk_slr]⟩ ⟨fun d hd => ?_, fun d r hd hF => ?_⟩
  · rcases hd with hd | hd | hd
    · exact .inl ((h7 d).2 (.inl hd))
    · rcases k4 d hd with h | h
      · exact .inl ((h7 d).2 (.inr (.inl h)))
      · exact .inr h
    · exact .inl ((h7 d).2 (.inr (.inr (blk_slr.2 hd))))
  · exact k5 d r hd (fun e => hF ((h7 d).2 (.inl e))) (fun e => hF ((h7 d).2 (.inr (.inl e))))

theorem p9 {N : Nat} (hN : N ≤ 100000) {H : Heap} {b : Nat} {now : List Mod} {past next : List Step} {F : Nat → Prop} (h : PAt N H b now past next F) (note : List UInt8) (cs : List Change)
    (hl : now.length ≤ 1000000) (hcl : cs.length ≤ 1000000) (hce : ∀ c ∈ cs, c.Edits.length ≤ 1000000) (hct : ∀ c ∈ cs, ∀ x ∈ c.Edits, x.Text.length ≤ 140737488355328) (hroom : Roomy now cs) (hfit : (applyC now [] cs).2 = 0 → Fit now cs) (K : AV → Heap → Prop)
    (hk0 : (applyC now [] cs).2 ≠ 0 → K (int (applyC now [] cs).2) H)
    (hk : (applyC now [] cs).2 = 0 → ∀ F' H', PAt (N + 1) H' b (applyC now [] cs).1 (if 100 < past.length + 1 then (past ++ [(⟨note, cs, undoOf now cs⟩ : Step)]).tail else past ++ [⟨note, cs, undoOf now cs⟩]) [] F' → Moved F F' H H' → K (int 0) H') :
    ACalls Try.prog 9 [.bp b 0 [], str note, .sl (cs.map eChange)] H K := by
  obtain ⟨p, q, h1, h2, h3, h4, h5, h6, h7⟩ := h
  refine c9 edit34 N hN b now past p q note cs h3.form H h1 h2 h4 hl hcl hce hct hroom hfit K hk0 fun he x' H' k1 k2 k3 k4 => ?_
  have hnew : ∀ d, blk x' d → d ≠ b := fun d hd e => by
    rcases k3 d hd with h | h
    · exact h4 (e ▸ h)
    · subst e; rw [h1] at h; cases h
  refine hk he (fun d => d = b ∨ blk x' d) H' ⟨_, _, k1, k2, .inl ⟨rfl, rfl⟩, fun h => hnew b h rfl, blk_nil, fun _ _ h => blk_nil h, fun d => ⟨fun h => h.imp id .inl, fun h => h.imp id fun h => h.resolve_right blk_nil⟩⟩ ⟨fun d hd => ?_, fun d r hd hF => ?_⟩
  · rcases hd with hd | hd
    · exact .inl ((h7 d).2 (.inl hd))
    · rcases k3 d hd with h | h
      · exact .inl ((h7 d).2 (.inr (.inl h)))
      · exact .inr h
  · exact k4 d r hd (fun e => hF ((h7 d).2 (.inl e))) (fun e => hF ((h7 d).2 (.inr (.inl e))))

/-! ### the reference's steps -/
theorem r18 {N : Nat} (hN : N ≤ 100000) {H : Heap} {b : Nat} {ps next : List State} {st : State} {F : Nat → Prop} (h : RAt N H b (ps ++ [st]) next F) (K : AV → Heap → Prop)
    (hk : K (.sl (st.L.map eMod)) H) : ACalls Try.prog 18 [.bp b 0 []] H K := by
  obtain ⟨p, q, h1, h2, h3, h4, h5, h6, h7⟩ := h
  obtain ⟨pb, pi, row, g1, rfl, g3, g4, g5, g6⟩ := h2.top
  exact c18 b pb pi (pi + (ps.length + 1)) row st q (by omega) g3 (by omega) H h1 g1 g4 K hk

theorem r12o {N : Nat} {H : Heap} {b : Nat} {st : State} {next : List State} {F : Nat → Prop} (h : RAt N H b [st] next F) (K : AV → Heap → Prop) (hk : K (.tup [str [], int 3]) H) : ACalls Try.prog 12 [.bp b 0 []] H K := by
  obtain ⟨p, q, h1, h2, h3, h4, h5, h6, h7⟩ := h
  obtain ⟨pb, pi, row, g1, rfl, g3, g4, g5, g6⟩ := Stk.top (l := []) h2
  exact c12o b pb pi q H h1 K hk

theorem r12s {N : Nat} (hN : N ≤ 100000) {H : Heap} {b : Nat} {ps next : List State} {st : State} {F : Nat → Prop} (h : RAt N H b (ps ++ [st]) next F) (hps : ps ≠ [])
    (K : AV → Heap → Prop) (hk : ∀ F' H', RAt (N + 1) H' b ps (next ++ [st]) F' → Moved F F' H H' → K (.tup [str st.Note, int 0]) H') : ACalls Try.prog 12 [.bp b 0 []] H K := by
  obtain ⟨p, q, h1, h2, h3, h4, h5, h6, h7⟩ := h
  obtain ⟨pb, pi, row, g1, rfl, g3, g4, g5, g6⟩ := h2.top
  have hpb : pb ≠ b := fun e => h4 (blk_slr.2 e.symm)
  refine c12s N hN b pb pi row ps next st hps q H h1 g1 g3 g4 h3 (h6 pb (blk_slr.2 rfl)) (by omega) K fun x' H' k1 k2 k3 k4 k5 => ?_
  have hnew : ∀ d, blk x' d → d ≠ b ∧ d ≠ pb := fun d hd => by
    rcases k4 d hd with h | h
    · exact ⟨fun e => h5 (e ▸ h), fun e => h6 pb (blk_slr.2 rfl) (e ▸ h)⟩
    · exact ⟨fun e => (by subst e; rw [h1] at h; cases h), fun e => (by subst e; rw [g1] at h; cases h)⟩
  refine hk (fun d => d = b ∨ d = pb ∨ blk x' d) H' ⟨_, _, k1, .inr ⟨pb, pi, row, k2, rfl, by omega, g5, by omega⟩, k3, fun h => hpb (blk_slr.1 h).symm, fun h => (hnew b h).1 rfl, fun d hd hx => (hnew d hx).2 (blk_slr.1 hd), fun d => by rw [blk_slr]⟩ ⟨fun d hd => ?_, fun d r hd hF => ?_⟩
  · rcases hd with hd | hd | hd
    · exact .inl ((h7 d).2 (.inl hd))
    · exact .inl ((h7 d).2 (.inr (.inl (blk_slr.2 hd))))
    · rcases k4 d hd with h | h
      · exact .inl ((h7 d).2 (.inr (.inr h)))
      · exact .inr h
  · exact k5 d r hd (fun e => hF ((h7 d).2 (.inl e))) (fun e => hF ((h7 d).2 (.inr (.inr e))))

theorem r14o {N : Nat} {H : Heap} {b : Nat} {past : List State} {F : Nat → Prop} (h : RAt N H b past [] F) (K : AV → Heap → Prop) (hk : K (.tup [str [], int 3]) H) : ACalls Try.prog 14 [.bp b 0 []] H K := by
  obtain ⟨p, q, h1, h2, h3, h4, h5, h6, h7⟩ := h
  have hp : p.size = 1 := by rcases h2.form with rfl | ⟨d, i, j, rfl⟩ <;> rfl
  rcases h3 with ⟨-, rfl⟩ | ⟨pb, pi, row, g1, rfl, g3⟩
  · exact c14o b 0 0 p hp _ (.inl rfl) H h1 K hk
  · exact c14o b pb pi p hp _ (.inr rfl) H h1 K hk

theorem r14s {N : Nat} (hN : N ≤ 100000) {H : Heap} {b : Nat} {past ns : List State} {st : State} {F : Nat → Prop} (h : RAt N H b past (ns ++ [st]) F) (hp0 : past ≠ []) (hpN : past.length ≤ N)
    (K : AV → Heap → Prop) (hk : ∀ F' H', RAt (N + 1) H' b (past ++ [st]) ns F' → Moved F F' H H' → K (.tup [str st.Note, int 0]) H') : ACalls Try.prog 14 [.bp b 0 []] H K := by
  obtain ⟨p, q, h1, h2, h3, h4, h5, h6, h7⟩ := h
  obtain ⟨qb, qi, qrow, g1, rfl, g3, g4, g5, g6⟩ := h3.top
  rcases h2 with ⟨h2, -⟩ | ⟨pb, pi, prow, f1, rfl, f3, f4, f5⟩
  · exact absurd h2 hp0
  have hqb : qb ≠ b := fun e => h5 (blk_slr.2 e.symm)
  refine c14s b pb pi qb qi prow past qrow ns st H h1 f1 f3 f4 g1 g3 g4 (by omega) (by omega) K fun nb H' k0 k1 k2 k3 => ?_
  have hnb : nb ≠ b := fun e => by subst e; rw [h1] at k0; cases k0
  have hnq : nb ≠ qb := fun e => by subst e; rw [g1] at k0; cases k0
  refine hk (fun d => d = b ∨ d = nb ∨ d = qb) H' ⟨_, _, k1, .inr ⟨nb, 0, past ++ [st], k2, by simp, by simp, (by rw [List.drop_zero]; exact List.take_of_length_le (Nat.le_refl _)), by simp; omega⟩, .inr ⟨qb, qi, qrow, k3 qb _ g1 hqb, rfl, by omega, g5, by omega⟩, fun h => hnb (blk_slr.1 h).symm, fun h => hqb (blk_slr.1 h).symm, fun d hd hx => hnq ((blk_slr.1 hd).symm.trans (blk_slr.1 hx)), fun d => by rw [blk_slr, blk_slr]⟩ ⟨fun d hd => ?_, fun d r hd hF => ?_⟩
  · rcases hd with hd | hd | hd
    · exact .inl ((h7 d).2 (.inl hd))
    · subst hd; exact .inr k0
    · exact .inl ((h7 d).2 (.inr (.inr (blk_slr.2 hd))))
  · exact k3 d r hd (fun e => hF ((h7 d).2 (.inl e)))

theorem r10 {N : Nat} (hN : N ≤ 100000) {H : Heap} {b : Nat} {ps next : List State} {cur : State} {F : Nat → Prop} (h : RAt N H b (ps ++ [cur]) next F) (note : List UInt8) (cs : List Change)
    (hl : cur.L.length ≤ 1000000) (hcl : cs.length ≤ 1000000) (hce : ∀ c ∈ cs, c.Edits.length ≤ 1000000) (hroom : Roomy cur.L cs) (K : AV → Heap → Prop)
    (hk0 : (applyC cur.L [] cs).2 ≠ 0 → K (int (applyC cur.L [] cs).2) H)
    (hk : (applyC cur.L [] cs).2 = 0 → ∀ F' H', RAt (N + 1) H' b (if 101 < (ps ++ [cur]).length + 1 then ((ps ++ [cur]) ++ [(⟨note, (applyC cur.L [] cs).1⟩ : State)]).tail else (ps ++ [cur]) ++ [⟨note, (applyC cur.L [] cs).1⟩]) [] F' → Moved F F' H H' → K (int 0) H') :
    ACalls Try.prog 10 [.bp b 0 [], str note, .sl (cs.map eChange)] H K := by
  obtain ⟨p, q, h1, h2, h3, h4, h5, h6, h7⟩ := h
  rcases h2 with ⟨h2, -⟩ | ⟨pb, pi, prow, f1, rfl, f3, f4, f5⟩
  · simp at h2
  have hpb : pb ≠ b := fun e => h4 (blk_slr.2 e.symm)
  refine c10 N hN b pb pi prow (ps ++ [cur]) cur note cs q h3.form H h1 f1 f3 f4 f5 (by simp) (by simp) hl hcl hce hroom K hk0 fun he x' H' k1 k2 k3 k4 => ?_
  have hnew : ∀ d, blk x' d → d ≠ b := fun d hd e => by
    rcases k3 d hd with h | h
    · exact hpb (h.symm.trans e)
    · subst e; rw [h1] at h; cases h
  refine hk he (fun d => d = b ∨ blk x' d) H' ⟨_, _, k1, k2, .inl ⟨rfl, rfl⟩, fun h => hnew b h rfl, blk_nil, fun _ _ h => blk_nil h, fun d => ⟨fun h => h.imp id .inl, fun h => h.imp id fun h => h.resolve_right blk_nil⟩⟩ ⟨fun d hd => ?_, fun d r hd hF => ?_⟩
  · rcases hd with hd | hd
    · exact .inl ((h7 d).2 (.inl hd))
    · rcases k3 d hd with h | h
      · exact .inl ((h7 d).2 (.inr (.inl (blk_slr.2 h))))
      · exact .inr h
  · exact k4 d r hd (fun e => hF ((h7 d).2 (.inl e))) (fun e => hF ((h7 d).2 (.inr (.inl (blk_slr.2 e)))))

end Go.Flow

