/-
  Regions that draw their order, over abstract values: one order serves all. No condition.
-/
import Derived.Test.YtlcggoafbafldaaFlowK
import Derived.Still
set_option linter.unusedSectionVars false
set_option linter.unusedVariables false
set_option linter.unusedSimpArgs false
namespace Go.Flow
open Go

/-! ### operations hang on their operands alone, and on what comes behind them monotonely -/
theorem aOp_congr {P : Program} {op : Op} {ev ev' : Operand → AV} {H : Heap} {K : AV → Heap → Prop} (h : ∀ x ∈ op.operands, ev x = ev' x) (ha : aOp P op ev H K) : aOp P op ev' H K := by
  unfold aOp at ha ⊢
  have arr : ∀ xs : Array Operand, (∀ x ∈ xs, ev x = ev' x) → xs.toList.map ev = xs.toList.map ev' := fun xs hx =>
    List.map_congr_left fun x hm => hx x (by simpa using hm)
  have pairs : ∀ ps : Array (Nat × Operand), (∀ x ∈ (ps.toList.map (·.2)).toArray, ev x = ev' x) → (ps.toList.map fun p => (p.1, ev p.2)) = (ps.toList.map fun p => (p.1, ev' p.2)) := fun ps hp =>
    List.map_congr_left fun p hm => by rw [hp p.2 (by simp; exact ⟨p.1, by simpa using hm⟩)]
  split at ha <;> simp only [Op.operands] at h
  all_goals (try dsimp only)
  case h_1 x => rwa [← h x (by simp)]
  case h_2 x => rwa [← h x (by simp)]
  case h_3 c a b => rwa [← h c (by simp), ← h a (by simp), ← h b (by simp)]
  case h_4 => exact ha
  case h_5 t x => rwa [← h x (by simp)]
  case h_6 t ps => rwa [← pairs ps h]
  case h_7 t n ps => rwa [← pairs ps h]
  case h_8 t a => rwa [← h a (by simp)]
  case h_9 t a x => rwa [← h a (by simp), ← h x (by simp)]
  case h_10 x => rwa [← h x (by simp)]
  case h_11 => rename_i x y _; rwa [← h x (by simp), ← h y (by simp)]
  case h_12 => rename_i x; rwa [← h x (by simp)]
  case h_13 => rename_i x; rwa [← h x (by simp)]
  case h_14 fn first caps => rwa [← arr first fun x hx => h x (by simp [hx]), ← arr caps fun x hx => h x (by simp [hx])]
  case h_15 => exact ha
  case h_16 t x lo hi =>
    have e1 : lo.map ev = lo.map ev' := by cases lo <;> simp_all
    have e2 : hi.map ev = hi.map ev' := by cases hi <;> simp_all
    rwa [← h x (by simp), ← e1, ← e2]
  case h_17 t x k => rwa [← h x (by simp)]
  case h_18 t x i => rwa [← h x (by simp), ← h i (by simp)]
  case h_19 t x i => rwa [← h x (by simp), ← h i (by simp)]
  case h_20 t m k ok => rwa [← h m (by simp), ← h k (by simp)]
  case h_21 t m k x => rwa [← h m (by simp), ← h k (by simp), ← h x (by simp)]
  case h_22 t i => rwa [← h t (by simp)]
  case h_23 c =>
    have e1 : c.args.toList.map ev = c.args.toList.map ev' := arr c.args fun x hx => h x (by simp [Call.operands, hx])
    split at ha
    · rename_i f hf
      rwa [← h f (by simp [Call.operands, hf]), ← e1]
    · rename_i b hb
      rwa [← e1]
    · exact ha.elim
  case h_24 t x lo hi m =>
    have e1 : lo.map ev = lo.map ev' := by cases lo <;> simp_all
    have e2 : hi.map ev = hi.map ev' := by cases hi <;> simp_all
    rwa [← h x (by simp), ← e1, ← e2, ← h m (by simp)]
  case h_25 => exact ha.elim

theorem aOp_mono {P : Program} {op : Op} {ev : Operand → AV} {H : Heap} {K K' : AV → Heap → Prop} (hk : ∀ x H, K x H → K' x H) (ha : aOp P op ev H K) : aOp P op ev H K' := by
  unfold aOp at ha ⊢
  split at ha
  all_goals (try dsimp only)
  case h_1 => exact hk _ _ ha
  case h_2 => exact hk _ _ ha
  case h_3 =>
    unfold aPick at ha ⊢
    split at ha <;> try exact ha.elim
    exact ⟨fun h => hk _ _ (ha.1 h), fun h => hk _ _ (ha.2 h)⟩
  case h_4 =>
    unfold aAlloc at ha ⊢
    split at ha <;> try exact ha.elim
    exact fun b hb => hk _ _ (ha b hb)
  case h_5 => exact ⟨ha.1, fun b hb => hk _ _ (ha.2 b hb)⟩
  case h_6 =>
    unfold aBuild at ha ⊢
    split at ha <;> try exact ha.elim
    exact ⟨ha.1, hk _ _ ha.2⟩
  case h_7 =>
    unfold aBuildSlice at ha ⊢
    split at ha <;> try exact ha.elim
    split at ha <;> try exact ha.elim
    obtain ⟨h1, h2, h3, h4, h5⟩ := ha
    exact ⟨h1, h2, h3, h4, fun b hb => hk _ _ (h5 b hb)⟩
  case h_8 =>
    unfold aLoad at ha ⊢
    split at ha <;> try exact ha.elim
    · exact ⟨ha.1, hk _ _ ha.2⟩
    · split at ha <;> try exact ha.elim
      split at ha <;> try exact ha.elim
      exact ⟨ha.1, ha.2.1, hk _ _ ha.2.2⟩
  case h_9 =>
    unfold aStore at ha ⊢
    split at ha <;> try exact ha.elim
    split at ha <;> try exact ha.elim
    split at ha <;> try exact ha.elim
    obtain ⟨h1, h2, h3, h4, h5⟩ := ha
    exact ⟨h1, h2, h3, h4, hk _ _ h5⟩
  case h_10 =>
    unfold aNilCheck at ha ⊢
    split at ha <;> first | exact hk _ _ ha | exact ha.elim
  case h_11 =>
    unfold aBin at ha ⊢
    split at ha <;> try exact ha.elim
    all_goals (try dsimp only)
    all_goals (split at ha <;> try exact ha.elim)
    all_goals (try dsimp only)
    · split at ha <;> first | exact hk _ _ ha | exact ha.elim
    · split at ha <;> first | exact hk _ _ ha | exact ha.elim
    · obtain ⟨h1, ha⟩ := ha; refine ⟨h1, ?_⟩; split at ha <;> first | exact hk _ _ ha | exact ha.elim
    · obtain ⟨h1, ha⟩ := ha; refine ⟨h1, ?_⟩; split at ha <;> first | exact hk _ _ ha | exact ha.elim
    · obtain ⟨h1, ha⟩ := ha; refine ⟨h1, ?_⟩; split at ha <;> first | exact hk _ _ ha | exact ha.elim
    · obtain ⟨h1, ha⟩ := ha; refine ⟨h1, ?_⟩; split at ha <;> first | exact hk _ _ ha | exact ha.elim
    · obtain ⟨h1, ha⟩ := ha; refine ⟨h1, ?_⟩; split at ha <;> first | exact hk _ _ ha | exact ha.elim
    · obtain ⟨h1, ha⟩ := ha; refine ⟨h1, ?_⟩; split at ha <;> first | exact hk _ _ ha | exact ha.elim
    · obtain ⟨h1, ha⟩ := ha
      refine ⟨h1, fun c hc => ?_⟩
      have := ha c hc
      split at this <;> first | exact hk _ _ this | exact this.elim
    · obtain ⟨h1, ha⟩ := ha; refine ⟨h1, ?_⟩; split at ha <;> first | exact hk _ _ ha | exact ha.elim
    · obtain ⟨h1, h2, ha⟩ := ha
      refine ⟨h1, h2, ?_⟩
      split at ha <;> try exact ha.elim
      split at ha <;> first | exact hk _ _ ha | exact ha.elim
  case h_12 =>
    unfold aUn at ha ⊢
    split at ha <;> try exact ha.elim
    all_goals (split at ha <;> first | exact hk _ _ ha | exact ha.elim)
  case h_13 =>
    unfold aConv at ha ⊢
    split at ha <;> try exact ha.elim
    · split at ha <;> first | exact hk _ _ ha | exact ha.elim
    · exact ⟨ha.1, ha.2.1, hk _ _ ha.2.2⟩
  case h_14 =>
    unfold aMakeFunc at ha ⊢
    split at ha <;> try exact ha.elim
    exact ⟨ha.1, ha.2.1, hk _ _ ha.2.2⟩
  case h_15 => exact fun b hb => hk _ _ (ha b hb)
  case h_16 =>
    unfold aSlice at ha ⊢
    split at ha <;> try exact ha.elim
    all_goals (split at ha <;> try exact ha.elim)
    · obtain ⟨h1, h2, h3, h4, h5⟩ := ha; exact ⟨h1, h2, h3, h4, hk _ _ h5⟩
    · obtain ⟨h1, h2, h3, h4, h5⟩ := ha; exact ⟨h1, h2, h3, h4, hk _ _ h5⟩
    · obtain ⟨h1, h2, h3, h4, h5⟩ := ha; exact ⟨h1, h2, h3, h4, hk _ _ h5⟩
    · obtain ⟨h1, h2, h3⟩ := ha; exact ⟨h1, h2, hk _ _ h3⟩
  case h_17 =>
    unfold aField at ha ⊢
    split at ha <;> try exact ha.elim
    split at ha <;> try exact ha.elim
    · split at ha <;> try exact ha.elim
      exact ⟨ha.1, hk _ _ ha.2⟩
    · exact hk _ _ ha
  case h_18 =>
    unfold aIndex at ha ⊢
    split at ha <;> try exact ha.elim
    split at ha <;> try exact ha.elim
    split at ha <;> try exact ha.elim
    · obtain ⟨h1, ha⟩ := ha
      refine ⟨h1, ?_⟩
      split at ha <;> try exact ha.elim
      exact ⟨ha.1, hk _ _ ha.2⟩
    · obtain ⟨h1, h2, h3, h4⟩ := ha; exact ⟨h1, h2, h3, hk _ _ h4⟩
  case h_19 =>
    unfold aIndexS at ha ⊢
    split at ha <;> try exact ha.elim
    split at ha <;> try exact ha.elim
    obtain ⟨h1, h2, ha⟩ := ha
    refine ⟨h1, h2, ?_⟩
    split at ha <;> first | exact hk _ _ ha | exact ha.elim
  case h_20 =>
    unfold aLookup at ha ⊢
    split at ha <;> try exact ha.elim
    split at ha <;> try exact ha.elim
    obtain ⟨h1, h2, h3, ha⟩ := ha
    refine ⟨h1, h2, h3, ?_⟩
    split at ha <;> try exact ha.elim
    split at ha <;> exact hk _ _ ha
  case h_21 =>
    unfold aMapUpdate at ha ⊢
    split at ha <;> try exact ha.elim
    split at ha <;> try exact ha.elim
    obtain ⟨h1, h2, h3, h4, h5⟩ := ha
    exact ⟨h1, h2, h3, h4, hk _ _ h5⟩
  case h_22 =>
    unfold aExtract at ha ⊢
    split at ha <;> try exact ha.elim
    split at ha <;> first | exact hk _ _ ha | exact ha.elim
  case h_23 c =>
    split at ha <;> try exact ha.elim
    · unfold aCall at ha ⊢
      split at ha <;> try exact ha.elim
      exact ⟨ha.1, ha.2.mono hk⟩
    · unfold aBuiltin at ha ⊢
      split at ha <;> try exact ha.elim
      · split at ha <;> try exact ha.elim
        split at ha <;> try exact ha.elim
        · unfold aLen at ha ⊢
          split at ha <;> try exact ha.elim
          · exact ⟨ha.1, hk _ _ ha.2⟩
          · exact ⟨ha.1, hk _ _ ha.2⟩
          · exact ⟨ha.1, hk _ _ ha.2⟩
          · exact ⟨ha.1, hk _ _ ha.2⟩
          · split at ha <;> try exact ha.elim
            exact ⟨ha.1, hk _ _ ha.2⟩
        · unfold aClear at ha ⊢
          split at ha <;> try exact ha.elim
          split at ha <;> try exact ha.elim
          split at ha <;> try exact ha.elim
          split at ha <;> try exact ha.elim
          obtain ⟨h1, h2, h3, h4, ha⟩ := ha
          exact ⟨h1, h2, h3, h4, hk _ _ ha⟩
        · unfold aSliceData at ha ⊢
          split at ha <;> try exact ha.elim
          · exact hk _ _ ha
          · exact ⟨ha.1, hk _ _ ha.2⟩
      · split at ha <;> try exact ha.elim
        split at ha <;> try exact ha.elim
        · unfold aAppend at ha ⊢
          split at ha <;> try exact ha.elim
          split at ha <;> try exact ha.elim
          obtain ⟨h1, h2, h3, h4, ha⟩ := ha
          refine ⟨h1, h2, h3, h4, ?_⟩
          split at ha <;> try exact ha.elim
          · exact ⟨fun h => hk _ _ (ha.1 h), fun h => ⟨(ha.2 h).1, fun b hb => hk _ _ ((ha.2 h).2 b hb)⟩⟩
          · split at ha <;> try exact ha.elim
            obtain ⟨g1, g2, ha⟩ := ha
            refine ⟨g1, g2, ?_⟩
            split at ha
            · rename_i hj
              rw [if_pos hj]
              obtain ⟨g3, ha⟩ := ha
              refine ⟨g3, ?_⟩
              split at ha
              · rename_i hi
                rw [if_pos hi]
                exact fun b' hb' => hk _ _ (ha b' hb')
              · rename_i hi
                rw [if_neg hi]
                exact ⟨hk _ _ ha.1, fun b' hb' => hk _ _ (ha.2 b' hb')⟩
            · rename_i hj
              rw [if_neg hj]
              exact ⟨ha.1, hk _ _ ha.2⟩
        · unfold aMinMax at ha ⊢
          split at ha <;> try exact ha.elim
          split at ha <;> try exact ha.elim
          exact ⟨ha.1, hk _ _ ha.2⟩
        · unfold aMinMax at ha ⊢
          split at ha <;> try exact ha.elim
          split at ha <;> try exact ha.elim
          exact ⟨ha.1, hk _ _ ha.2⟩
        · unfold aUnsafeString at ha ⊢
          split at ha <;> try exact ha.elim
          · exact hk _ _ ha
          · split at ha <;> try exact ha.elim
            obtain ⟨h1, h2, bs, h3, h4, h5, h6, ha⟩ := ha
            exact ⟨h1, h2, bs, h3, h4, h5, h6, hk _ _ ha⟩
  case h_24 =>
    unfold aSlice3 at ha ⊢
    split at ha <;> try exact ha.elim
    split at ha <;> try exact ha.elim
    obtain ⟨h1, h2, h3, h4, ha⟩ := ha
    exact ⟨h1, h2, h3, h4, hk _ _ ha⟩
  case h_25 => exact ha.elim


/-! ### operations that leave the resources alone -/
def calmOp (P : Program) : Op → Bool
  | .binOp _ t _ _ _ => kindT P t != 3
  | .move _ | .assign _ | .pick _ _ _ | .load _ _ | .nilCheck _ | .unOp _ _ _ | .convert _ _ _ | .makeFunc _ _ _ | .slice _ _ _ _ none | .fieldAddr _ _ _ | .indexAddr _ _ _ | .index _ _ _ | .lookup _ _ _ _ | .extract _ _ | .build _ _ => true
  | .call c => match c.callee with
    | .builtin .len => true
    | .builtin .min => true
    | .builtin .max => true
    | .builtin .unsafeSliceData => true
    | _ => false
  | _ => false

/-- one value, whatever is asked of it -/
def Yields (P : Program) (op : Op) (ev : Operand → AV) (H : Heap) (x : AV) : Prop := ∀ K : AV → Heap → Prop, K x H → aOp P op ev H K

/-- what the one has, the other has, too -/
def Heap.le (H G : Heap) : Prop := ∀ b r, H b = some r → G b = some r

theorem calm_yields {P : Program} {op : Op} {ev : Operand → AV} {H : Heap} {K : AV → Heap → Prop} (hc : calmOp P op = true) (ha : aOp P op ev H K) : ∃ x, (∀ G, Heap.le H G → Yields P op ev G x) ∧ K x H := by
  unfold Yields
  unfold aOp at ha ⊢
  split at ha <;> simp only [calmOp, Bool.false_eq_true] at hc
  all_goals (try dsimp only)
  case h_1 => exact ⟨_, fun G hG K' h => h, ha⟩
  case h_2 => exact ⟨_, fun G hG K' h => h, ha⟩
  case h_3 =>
    unfold aPick at ha ⊢
    split at ha <;> try exact ha.elim
    rename_i t _
    cases t
    · exact ⟨_, fun G hG K' h => ⟨fun h' => (by cases h'), fun _ => h⟩, ha.2 rfl⟩
    · exact ⟨_, fun G hG K' h => ⟨fun _ => h, fun h' => (by cases h')⟩, ha.1 rfl⟩
  case h_6 =>
    unfold aBuild at ha ⊢
    split at ha <;> try exact ha.elim
    exact ⟨_, fun G hG K' h => ⟨ha.1, h⟩, ha.2⟩
  case h_8 =>
    unfold aLoad at ha ⊢
    split at ha <;> try exact ha.elim
    · exact ⟨_, fun G hG K' h => ⟨ha.1, h⟩, ha.2⟩
    · split at ha <;> try exact ha.elim
      rename_i hb
      split at ha <;> try exact ha.elim
      rename_i hat
      refine ⟨_, fun G hG K' h => ?_, ha.2.2⟩
      rw [hG _ _ hb]
      dsimp only
      rw [hat]
      exact ⟨ha.1, ha.2.1, h⟩
  case h_10 =>
    unfold aNilCheck at ha ⊢
    split at ha <;> first | exact ⟨_, fun G hG K' h => h, ha⟩ | exact ha.elim
  case h_11 =>
    unfold aBin at ha ⊢
    split at ha <;> try exact ha.elim
    all_goals (try dsimp only)
    all_goals (split at ha <;> try exact ha.elim)
    all_goals (try dsimp only)
    · split at ha <;> first | exact ⟨_, fun G hG K' h => h, ha⟩ | exact ha.elim
    · split at ha <;> first | exact ⟨_, fun G hG K' h => h, ha⟩ | exact ha.elim
    · obtain ⟨h1, ha⟩ := ha; split at ha <;> first | exact ⟨_, fun G hG K' h => ⟨h1, h⟩, ha⟩ | exact ha.elim
    · obtain ⟨h1, ha⟩ := ha; split at ha <;> first | exact ⟨_, fun G hG K' h => ⟨h1, h⟩, ha⟩ | exact ha.elim
    · obtain ⟨h1, ha⟩ := ha; split at ha <;> first | exact ⟨_, fun G hG K' h => ⟨h1, h⟩, ha⟩ | exact ha.elim
    · obtain ⟨h1, ha⟩ := ha; split at ha <;> first | exact ⟨_, fun G hG K' h => ⟨h1, h⟩, ha⟩ | exact ha.elim
    · obtain ⟨h1, ha⟩ := ha; split at ha <;> first | exact ⟨_, fun G hG K' h => ⟨h1, h⟩, ha⟩ | exact ha.elim
    · obtain ⟨h1, ha⟩ := ha; split at ha <;> first | exact ⟨_, fun G hG K' h => ⟨h1, h⟩, ha⟩ | exact ha.elim
    · obtain ⟨h1, ha⟩ := ha; simp [h1] at hc
    · obtain ⟨h1, ha⟩ := ha; split at ha <;> first | exact ⟨_, fun G hG K' h => ⟨h1, h⟩, ha⟩ | exact ha.elim
    · obtain ⟨h1, h2, ha⟩ := ha
      split at ha <;> try exact ha.elim
      split at ha <;> first | exact ⟨_, fun G hG K' h => ⟨h1, h2, h⟩, ha⟩ | exact ha.elim
  case h_12 =>
    unfold aUn at ha ⊢
    split at ha <;> try exact ha.elim
    all_goals (split at ha <;> first | exact ⟨_, fun G hG K' h => h, ha⟩ | exact ha.elim)
  case h_13 =>
    unfold aConv at ha ⊢
    split at ha <;> try exact ha.elim
    · split at ha <;> first | exact ⟨_, fun G hG K' h => h, ha⟩ | exact ha.elim
    · exact ⟨_, fun G hG K' h => ⟨ha.1, ha.2.1, h⟩, ha.2.2⟩
  case h_14 =>
    unfold aMakeFunc at ha ⊢
    split at ha <;> try exact ha.elim
    exact ⟨_, fun G hG K' h => ⟨ha.1, ha.2.1, h⟩, ha.2.2⟩
  case h_16 =>
    unfold aSlice at ha ⊢
    split at ha <;> try exact ha.elim
    all_goals (split at ha <;> try exact ha.elim)
    · obtain ⟨h1, h2, h3, h4, h5⟩ := ha; exact ⟨_, fun G hG K' h => ⟨h1, h2, h3, h4, h⟩, h5⟩
    · obtain ⟨h1, h2, h3, h4, h5⟩ := ha; exact ⟨_, fun G hG K' h => ⟨h1, h2, h3, h4, h⟩, h5⟩
    · obtain ⟨h1, h2, h3, h4, h5⟩ := ha; exact ⟨_, fun G hG K' h => ⟨h1, h2, h3, h4.imp id (fun ⟨q0, l, q1, q2⟩ => ⟨q0, l, hG _ _ q1, q2⟩), h⟩, h5⟩
    · obtain ⟨h1, h2, h3⟩ := ha; exact ⟨_, fun G hG K' h => ⟨h1, h2, h⟩, h3⟩
  case h_17 =>
    unfold aField at ha ⊢
    split at ha <;> try exact ha.elim
    split at ha <;> try exact ha.elim
    · split at ha <;> try exact ha.elim
      exact ⟨_, fun G hG K' h => ⟨ha.1, h⟩, ha.2⟩
    · exact ⟨_, fun G hG K' h => h, ha⟩
  case h_18 =>
    unfold aIndex at ha ⊢
    split at ha <;> try exact ha.elim
    split at ha <;> try exact ha.elim
    split at ha <;> try exact ha.elim
    · obtain ⟨h1, ha⟩ := ha
      split at ha <;> try exact ha.elim
      exact ⟨_, fun G hG K' h => ⟨h1, ha.1, h⟩, ha.2⟩
    · obtain ⟨h1, h2, h3, h4⟩ := ha; exact ⟨_, fun G hG K' h => ⟨h1, h2, h3, h⟩, h4⟩
  case h_19 =>
    unfold aIndexS at ha ⊢
    split at ha <;> try exact ha.elim
    split at ha <;> try exact ha.elim
    obtain ⟨h1, h2, ha⟩ := ha
    split at ha <;> first | exact ⟨_, fun G hG K' h => ⟨h1, h2, h⟩, ha⟩ | exact ha.elim
  case h_20 =>
    unfold aLookup at ha ⊢
    split at ha <;> try exact ha.elim
    split at ha <;> try exact ha.elim
    rename_i hb
    obtain ⟨h1, h2, h3, ha⟩ := ha
    split at ha <;> try exact ha.elim
    rename_i hz
    split at ha
    · rename_i hf
      refine ⟨_, fun G hG K' h => ?_, ha⟩
      rw [hG _ _ hb]; dsimp only; rw [hf]
      exact ⟨h1, h2, h3, h⟩
    · rename_i hf
      refine ⟨_, fun G hG K' h => ?_, ha⟩
      rw [hG _ _ hb]; dsimp only; rw [hf]
      exact ⟨h1, h2, h3, h⟩
  case h_22 =>
    unfold aExtract at ha ⊢
    split at ha <;> try exact ha.elim
    split at ha <;> first | exact ⟨_, fun G hG K' h => h, ha⟩ | exact ha.elim
  case h_23 c =>
    split at ha <;> try exact ha.elim
    · rename_i hcal; simp [hcal] at hc
    · rename_i b hcal
      unfold aBuiltin at ha ⊢
      split at ha <;> try exact ha.elim
      · split at ha <;> try exact ha.elim
        split at ha <;> try exact ha.elim
        all_goals try (simp [hcal] at hc; done)
        · unfold aLen at ha ⊢
          split at ha <;> try exact ha.elim
          · exact ⟨_, fun G hG K' h => ⟨ha.1, h⟩, ha.2⟩
          · exact ⟨_, fun G hG K' h => ⟨ha.1, h⟩, ha.2⟩
          · exact ⟨_, fun G hG K' h => ⟨ha.1, h⟩, ha.2⟩
          · exact ⟨_, fun G hG K' h => ⟨ha.1, h⟩, ha.2⟩
          · split at ha <;> try exact ha.elim
            rename_i hb
            refine ⟨_, fun G hG K' h => ?_, ha.2⟩
            rw [hG _ _ hb]
            exact ⟨ha.1, h⟩
        · unfold aSliceData at ha ⊢
          split at ha <;> try exact ha.elim
          · exact ⟨_, fun G hG K' h => h, ha⟩
          · exact ⟨_, fun G hG K' h => ⟨ha.1, h⟩, ha.2⟩
      · split at ha <;> try exact ha.elim
        split at ha <;> try exact ha.elim
        · simp [hcal] at hc
        · unfold aMinMax at ha ⊢
          split at ha <;> try exact ha.elim
          split at ha <;> try exact ha.elim
          exact ⟨_, fun G hG K' h => ⟨ha.1, h⟩, ha.2⟩
        · unfold aMinMax at ha ⊢
          split at ha <;> try exact ha.elim
          split at ha <;> try exact ha.elim
          exact ⟨_, fun G hG K' h => ⟨ha.1, h⟩, ha.2⟩
        · simp [hcal] at hc


/-- operations that at most add resources -/
def growOp (P : Program) (op : Op) : Bool := calmOp P op || (match op with | .alloc _ | .box _ _ | .buildSlice _ _ _ | .makeMap _ none => true | _ => false)

theorem Heap.le_upd {H : Heap} {b : Nat} {r : Res} (h : H b = none) : Heap.le H (H.upd b r) := fun c q hc => by
  have : c ≠ b := fun e => by rw [e, h] at hc; cases hc
  rw [Heap.upd_other _ _ this]; exact hc

theorem grow_keeps {P : Program} {op : Op} {ev : Operand → AV} {H : Heap} {K : AV → Heap → Prop} (hg : growOp P op = true) (ha : aOp P op ev H K) : aOp P op ev H (fun x H' => Heap.le H H' ∧ K x H') := by
  unfold growOp at hg
  cases hc : calmOp P op with
  | true =>
    obtain ⟨x, hx, hk⟩ := calm_yields hc ha
    exact hx H (fun _ _ h => h) _ ⟨fun _ _ h => h, hk⟩
  | false =>
    rw [hc] at hg
    split at hg <;> simp at hg
    · simp only [aOp] at ha ⊢
      unfold aAlloc at ha ⊢
      split at ha <;> try exact ha.elim
      exact fun b hb => ⟨Heap.le_upd hb, ha b hb⟩
    · simp only [aOp] at ha ⊢
      exact ⟨ha.1, fun b hb => ⟨Heap.le_upd hb, ha.2 b hb⟩⟩
    · simp only [aOp] at ha ⊢
      unfold aBuildSlice at ha ⊢
      split at ha <;> try exact ha.elim
      split at ha <;> try exact ha.elim
      obtain ⟨h1, h2, h3, h4, h5⟩ := ha
      exact ⟨h1, h2, h3, h4, fun b hb => ⟨Heap.le_upd hb, h5 b hb⟩⟩
    · simp only [aOp] at ha ⊢
      exact fun b hb => ⟨Heap.le_upd hb, ha b hb⟩

/-! ### all orders -/
def aOne (P : Program) (ops : Array Oper) (o : Oper) (K : Env → Heap → Prop) (ρ : Env) (H : Heap) : Prop :=
  match o.guard with
  | none => aOp P o.op ρ.eval H (fun x H' => K (ρ.put o.dst x) H')
  | some (j, want) => aGuard (aYield ops ρ j) want (fun H => aOp P o.op ρ.eval H (fun x H' => K (ρ.put o.dst x) H')) (fun H => K (ρ.put o.dst .any) H) H

def aAny (P : Program) (ops : Array Oper) (K : Env → Heap → Prop) : Nat → Array Bool → Env → Heap → Prop
  | 0, listed, ρ, H => Region.ready .any ops listed = [] ∧ K ρ H
  | n + 1, listed, ρ, H => (Region.ready .any ops listed = [] → K ρ H) ∧
    ∀ i ∈ Region.ready .any ops listed, ∀ o, ops[i]? = some o → aOne P ops o (aAny P ops K n (listed.setIfInBounds i true)) ρ H

/-- the same temporaries -/
def Env.same (ρ ρ' : Env) : Prop := ∀ t, ρ.get t = ρ'.get t

theorem Env.same_eval {ρ ρ' : Env} (h : ρ.same ρ') : ρ.eval = ρ'.eval := by
  funext x; cases x <;> simp [Env.eval, h _]

theorem Env.same_put {ρ ρ' : Env} (h : ρ.same ρ') (d : Option Tmp) (x : AV) : (ρ.put d x).same (ρ'.put d x) := by
  intro t
  cases d with
  | none => exact h t
  | some d => simp only [Env.put, Env.get]; split <;> simp [h t]

theorem Env.put_comm {ρ : Env} {d e : Option Tmp} {x y : AV} (h : ∀ a, d = some a → e ≠ some a) : ((ρ.put d x).put e y).same ((ρ.put e y).put d x) := by
  intro t
  cases d with
  | none => rfl
  | some a =>
    cases e with
    | none => rfl
    | some b =>
      have hne : a ≠ b := fun q => h a rfl (by rw [q])
      simp only [Env.put, Env.get]
      by_cases h1 : t = b
      · subst h1; simp [Ne.symm hne]
      · simp [h1]

theorem Env.eval_put {ρ : Env} {d : Option Tmp} {x : AV} {o : Operand} (h : ∀ a, d = some a → o ≠ .tmp a) : (ρ.put d x).eval o = ρ.eval o := by
  cases d with
  | none => rfl
  | some a =>
    cases o with
    | tmp t =>
      have : t ≠ a := fun e => h a rfl (by rw [e])
      simp [Env.put, Env.eval, Env.get, this]
    | _ => rfl

def Resp (K : Env → Heap → Prop) : Prop := ∀ ρ ρ' H, ρ.same ρ' → K ρ H → K ρ' H

theorem aGuard_mono {v : AV} {want : Bool} {r s r' s' : Heap → Prop} {H : Heap} (h1 : r H → r' H) (h2 : s H → s' H) (h : aGuard v want r s H) : aGuard v want r' s' H := by
  unfold aGuard at h ⊢
  split at h <;> try exact h.elim
  exact ⟨fun e => h1 (h.1 e), fun e => h2 (h.2 e)⟩

theorem aYield_same {ops : Array Oper} {ρ ρ' : Env} (h : ρ.same ρ') (j : Nat) : aYield ops ρ j = aYield ops ρ' j := by
  unfold aYield; split <;> simp [h _]

theorem aOne_mono {P : Program} {ops : Array Oper} {o : Oper} {K K' : Env → Heap → Prop} {ρ : Env} {H : Heap} (h : ∀ x H, K (ρ.put o.dst x) H → K' (ρ.put o.dst x) H) (ha : aOne P ops o K ρ H) : aOne P ops o K' ρ H := by
  unfold aOne at ha ⊢
  split at ha
  · exact aOp_mono (fun x H hk => h x H hk) ha
  · exact aGuard_mono (aOp_mono (fun x H hk => h x H hk)) (h _ _) ha

theorem aOne_same {P : Program} {ops : Array Oper} {o : Oper} {K : Env → Heap → Prop} {ρ ρ' : Env} {H : Heap} (hK : Resp K) (h : ρ.same ρ') (ha : aOne P ops o K ρ H) : aOne P ops o K ρ' H := by
  unfold aOne at ha ⊢
  rw [← Env.same_eval h]
  split at ha
  · exact aOp_mono (fun x H hk => hK _ _ _ (Env.same_put h _ _) hk) ha
  · rw [← aYield_same h]
    exact aGuard_mono (aOp_mono (fun x H hk => hK _ _ _ (Env.same_put h _ _) hk)) (hK _ _ _ (Env.same_put h _ _)) ha

theorem aAny_resp {P : Program} {ops : Array Oper} {K : Env → Heap → Prop} (hK : Resp K) : ∀ (n : Nat) (listed : Array Bool), Resp (aAny P ops K n listed)
  | 0, _, _, _, _, h, ha => ⟨ha.1, hK _ _ _ h ha.2⟩
  | n + 1, _, _, _, _, h, ha => ⟨fun h0 => hK _ _ _ h (ha.1 h0), fun i hi o ho => aOne_same (aAny_resp hK n _) h (ha.2 i hi o ho)⟩

/-- an operation yields one value in such resources, here -/
def OYields (P : Program) (ops : Array Oper) (o : Oper) (ρ : Env) (H : Heap) (x : AV) : Prop :=
  match o.guard with
  | none => Yields P o.op ρ.eval H x
  | some (j, want) => ∃ t : Bool, aYield ops ρ j = .v (.bool t) ∧ ((t = want ∧ Yields P o.op ρ.eval H x) ∨ (t ≠ want ∧ x = .any))

theorem OYields.one {P : Program} {ops : Array Oper} {o : Oper} {ρ : Env} {H : Heap} {x : AV} {K : Env → Heap → Prop} (h : OYields P ops o ρ H x) (hk : K (ρ.put o.dst x) H) : aOne P ops o K ρ H := by
  unfold OYields at h
  unfold aOne
  split at h
  · exact h _ hk
  · obtain ⟨t, h1, h2⟩ := h
    rw [h1]
    rcases h2 with ⟨h3, h4⟩ | ⟨h3, h4⟩
    · exact ⟨fun _ => h4 _ hk, fun hn => absurd h3 hn⟩
    · subst h4; exact ⟨fun e => absurd e h3, fun _ => hk⟩

theorem looksAt_ops {ops : Array Oper} {o : Oper} {d : Tmp} (h : d ∉ o.looksAt ops) : (∀ x ∈ o.op.operands, x ≠ .tmp d) ∧ ∀ j want, o.guard = some (j, want) → (ops[j]?).bind (·.dst) ≠ some d := by
  constructor
  · intro x hx e
    subst e
    exact h (List.mem_append_left _ (List.mem_filterMap.2 ⟨.tmp d, by simpa using hx, rfl⟩))
  · intro j want hg e
    exact h (List.mem_append_right _ (by simp [hg, e]))

theorem aYield_put {ops : Array Oper} {ρ : Env} {d : Option Tmp} {x : AV} {j : Nat} (h : ∀ a, d = some a → (ops[j]?).bind (·.dst) ≠ some a) : aYield ops (ρ.put d x) j = aYield ops ρ j := by
  unfold aYield
  split
  · rename_i e he
    cases d with
    | none => rfl
    | some a =>
      have : e ≠ a := fun q => h a rfl (by rw [he, q])
      simp [Env.put, Env.get, this]
  · rfl

theorem OYields.put {P : Program} {ops : Array Oper} {o : Oper} {ρ : Env} {H : Heap} {x y : AV} {d : Option Tmp} (h : OYields P ops o ρ H x) (hd : ∀ a, d = some a → a ∉ o.looksAt ops) : OYields P ops o (ρ.put d y) H x := by
  have h1 : ∀ q ∈ o.op.operands, (ρ.put d y).eval q = ρ.eval q := fun q hq => Env.eval_put fun a ha => (looksAt_ops (hd a ha)).1 q hq
  have h2 : Yields P o.op ρ.eval H x → Yields P o.op (ρ.put d y).eval H x := fun h K hk => aOp_congr (fun q hq => (h1 q hq).symm) (h K hk)
  unfold OYields at h ⊢
  split at h
  · exact h2 h
  · rename_i j want hg
    rw [aYield_put fun a ha => (looksAt_ops (hd a ha)).2 j want hg]
    obtain ⟨t, h3, h4⟩ := h
    exact ⟨t, h3, h4.imp (fun ⟨a, b⟩ => ⟨a, h2 b⟩) id⟩

theorem aOne_put {P : Program} {ops : Array Oper} {o : Oper} {ρ : Env} {H : Heap} {x : AV} {d : Option Tmp} {K : Env → Heap → Prop} (hK : Resp K) (hd : ∀ a, d = some a → a ∉ o.looksAt ops) (hd2 : ∀ a, d = some a → o.dst ≠ some a)
    (h : aOne P ops o K (ρ.put d x) H) : aOne P ops o (fun ρ' H' => K (ρ'.put d x) H') ρ H := by
  have h1 : ∀ q ∈ o.op.operands, (ρ.put d x).eval q = ρ.eval q := fun q hq => Env.eval_put fun a ha => (looksAt_ops (hd a ha)).1 q hq
  unfold aOne at h ⊢
  split at h
  · exact aOp_congr h1 (aOp_mono (fun y H hk => hK _ _ _ (Env.put_comm hd2) hk) h)
  · rename_i j want hg
    rw [aYield_put fun a ha => (looksAt_ops (hd a ha)).2 j want hg] at h
    exact aGuard_mono (fun h => aOp_congr h1 (aOp_mono (fun y H hk => hK _ _ _ (Env.put_comm hd2) hk) h)) (fun hk => hK _ _ _ (Env.put_comm hd2) hk) h

/-- an operation that may come up now may be taken first -/
theorem aAny_first {P : Program} {ops : Array Oper} {K : Env → Heap → Prop} (hK : Resp K) {i : Nat} {oi : Oper} {x : AV} (S : Heap → Prop) (D : List Nat) (hi : ops[i]? = some oi) :
    ∀ (n : Nat) (listed : Array Bool) (ρ : Env) (H : Heap),
      (∀ j ∈ D, listed.getD j true = false ∧ ∀ oj, ops[j]? = some oj → ∃ e ∈ oj.after, Region.binds .any e = true ∧ (e.on = i ∨ e.on ∈ D)) →
      (∀ j oj, ops[j]? = some oj → j ≠ i → j ∉ D → listed.getD j true = false → (∀ e ∈ oj.after, Region.binds .any e = true → e.on ≠ i) → oi.apart ops oj = true ∧
        ∀ ρ H K, S H → aOne P ops oj K ρ H → aOne P ops oj (fun ρ' H' => S H' ∧ K ρ' H') ρ H) →
      i ∈ Region.ready .any ops listed → (∀ H, S H → OYields P ops oi ρ H x) → S H →
      aAny P ops K n (listed.setIfInBounds i true) (ρ.put oi.dst x) H → aAny P ops K (n + 1) listed ρ H := by
  intro n
  induction n with
  | zero =>
    intro listed ρ H hD hfree hr hy hS ha
    refine ⟨fun h => (by rw [h] at hr; cases hr), fun j hj o ho => ?_⟩
    by_cases hji : j = i
    · subst hji
      rw [hi] at ho; cases ho
      exact (hy H hS).one ha
    · have := ready_mono hj hji
      rw [ha.1] at this
      cases this
  | succ n ih =>
    intro listed ρ H hD hfree hr hy hS ha
    refine ⟨fun h => (by rw [h] at hr; cases hr), fun j hj oj hoj => ?_⟩
    by_cases hji : j = i
    · subst hji
      rw [hi] at hoj; cases hoj
      exact (hy H hS).one ha
    · have h1 := ha.2 j (ready_mono hj hji) oj hoj
      obtain ⟨hjun, oj', hoj', hall⟩ := mem_ready.1 hj
      rw [hoj] at hoj'; cases hoj'
      have hnot : ∀ e ∈ oj.after, Region.binds .any e = true → e.on ≠ i := fun e he hb heq => by
        have h1 := hall e he hb
        have h0 := (mem_ready.1 hr).1
        rw [heq] at h1
        rcases Nat.lt_or_ge i listed.size with h' | h'
        · simp [h'] at h0 h1; rw [h0] at h1; cases h1
        · simp [Array.getElem?_eq_none h'] at h1
      have hun : ∀ k, listed.getD k true = false → listed[k]? ≠ some true := fun k hk h => by
        rw [Array.getD_eq_getD_getElem?, h] at hk; cases hk
      have hjD : j ∉ D := fun hjD => by
        obtain ⟨_, hx⟩ := hD j hjD
        obtain ⟨e, he, hb, hon⟩ := hx oj hoj
        rcases hon with hon | hon
        · exact hnot e he hb hon
        · have h1 := hall e he hb
          have h2 := (hD _ hon).1
          rw [Array.getD_eq_getD_getElem?] at h1 h2
          cases h3 : listed[e.on]? with
          | none => rw [h3] at h2; cases h2
          | some q => rw [h3] at h1 h2; simp at h1 h2; rw [h1] at h2; cases h2
      obtain ⟨hap, hkeep⟩ := hfree j oj hoj hji hjD hjun hnot
      obtain ⟨a1, a2, a3⟩ := Oper.apart_spec hap
      have h2 := aOne_put (aAny_resp hK n _) (fun a ha => a1 a ha) (fun a ha => a2 a ha) h1
      have h3 := hkeep ρ H _ hS h2
      have hfree' : ∀ k ok, ops[k]? = some ok → k ≠ i → k ∉ D → (listed.setIfInBounds j true).getD k true = false → (∀ e ∈ ok.after, Region.binds .any e = true → e.on ≠ i) → oi.apart ops ok = true ∧
          ∀ ρ H K, S H → aOne P ops ok K ρ H → aOne P ops ok (fun ρ' H' => S H' ∧ K ρ' H') ρ H := fun k ok hk hki hkD hun hno => by
        refine hfree k ok hk hki hkD ?_ hno
        by_cases hjk : j = k
        · subst hjk; exact hjun
        · rw [getD_set_ne true hjk] at hun; exact hun
      have hD' : ∀ k ∈ D, (listed.setIfInBounds j true).getD k true = false ∧ ∀ ok, ops[k]? = some ok → ∃ e ∈ ok.after, Region.binds .any e = true ∧ (e.on = i ∨ e.on ∈ D) := fun k hk =>
        ⟨by rw [getD_set_ne true (fun (h : j = k) => hjD (h ▸ hk))]; exact (hD k hk).1, (hD k hk).2⟩
      refine aOne_mono (fun y H' ⟨hS', h4⟩ => ih (listed.setIfInBounds j true) _ H' hD' hfree' (ready_mono hr (Ne.symm hji)) (fun H2 hS2 => (hy H2 hS2).put fun a ha => a3 a ha) hS' ?_) h3
      rw [Array.setIfInBounds_comm _ _ hji]
      exact h4

/-! ### an order, checked -/
/-- what comes behind an operation, through others -/
def depsOf (ops : Array Oper) (listed : Array Bool) (i : Nat) : Nat → List Nat
  | 0 => []
  | j + 1 => if listed.getD j true then depsOf ops listed i j else match ops[j]? with
    | none => depsOf ops listed i j
    | some o => if o.after.any (fun e => Region.binds .any e && (e.on == i || (depsOf ops listed i j).contains e.on)) then j :: depsOf ops listed i j else depsOf ops listed i j

theorem depsOf_spec {ops : Array Oper} {listed : Array Bool} {i : Nat} : ∀ n, ∀ j ∈ depsOf ops listed i n, listed.getD j true = false ∧ ∀ oj, ops[j]? = some oj → ∃ e ∈ oj.after, Region.binds .any e = true ∧ (e.on = i ∨ e.on ∈ depsOf ops listed i n)
  | 0, j, hj => by cases hj
  | n + 1, j, hj => by
    have ih := depsOf_spec (ops := ops) (listed := listed) (i := i) n
    unfold depsOf at hj ⊢
    split at hj
    · rename_i h; simp only [h, if_true]; exact ih j hj
    · rename_i h
      simp only [h, Bool.false_eq_true, if_false]
      cases ho : ops[n]? with
      | none => simp only [ho] at hj ⊢; exact ih j hj
      | some o =>
        simp only [ho] at hj ⊢
        split at hj
        · rename_i hy
          simp only [hy, if_true]
          have up : ∀ e : Edge, (e.on = i ∨ e.on ∈ depsOf ops listed i n) → (e.on = i ∨ e.on ∈ n :: depsOf ops listed i n) := fun e h => h.imp id (fun h => List.mem_cons_of_mem _ h)
          rcases List.mem_cons.1 hj with rfl | hj
          · refine ⟨by simpa using h, fun oj hoj => ?_⟩
            rw [ho] at hoj; cases hoj
            obtain ⟨e, he, h2⟩ := Array.any_eq_true'.1 hy
            simp only [Bool.and_eq_true, Bool.or_eq_true, beq_iff_eq, List.contains_iff_mem] at h2
            exact ⟨e, he, h2.1, up e h2.2⟩
          · obtain ⟨h1, h2⟩ := ih j hj
            exact ⟨h1, fun oj hoj => by obtain ⟨e, he, hb, hon⟩ := h2 oj hoj; exact ⟨e, he, hb, up e hon⟩⟩
        · rename_i hy
          rw [if_neg hy]; exact ih j hj

/-- no other operation that may still come ahead takes memory away -/
def calmRest (P : Program) (ops : Array Oper) (listed : Array Bool) (i : Nat) : Bool :=
  (List.range ops.size).all fun j => j == i || listed.getD j true || (match ops[j]? with | some o => growOp P o.op | none => true) || (depsOf ops listed i ops.size).contains j

/-! ### variables that others leave alone -/
def Res.isBox : Res → Bool
  | .box _ => true
  | .ty _ r => r.isBox
  | _ => false

/-- a load off a variable of our own -/
def onBox (op : Op) (ev : Operand → AV) (H : Heap) : Prop :=
  match op with
  | .load _ a => match ev a with
    | .bp b _ _ => match H b with
      | some r => r.isBox = true
      | none => False
    | _ => False
  | _ => False

/-- operations that leave variables as they are -/
def tameOp (P : Program) (op : Op) : Bool := growOp P op || (match op with
  | .call c => match c.callee with
    | .builtin .append => true
    | _ => false
  | _ => false)

theorem tame_keeps {P : Program} {op : Op} {ev : Operand → AV} {H : Heap} {K : AV → Heap → Prop} {b : Nat} {r : Res} (hg : tameOp P op = true) (hb : H b = some r) (hr : r.isBox = true) (ha : aOp P op ev H K) :
    aOp P op ev H (fun x H' => H' b = some r ∧ K x H') := by
  unfold tameOp at hg
  cases hc : growOp P op with
  | true => exact aOp_mono (fun x H' h => ⟨h.1 b r hb, h.2⟩) (grow_keeps hc ha)
  | false =>
    rw [hc] at hg
    simp only [Bool.false_or] at hg
    split at hg <;> try cases hg
    rename_i c
    split at hg <;> try cases hg
    rename_i hcal
    simp only [aOp, hcal] at ha ⊢
    unfold aBuiltin at ha ⊢
    split at ha <;> try exact ha.elim
    · split at ha <;> exact ha.elim
    split at ha <;> try exact ha.elim
    rename_i t u x y
    simp only at ha ⊢
    have up : ∀ c q, (c ≠ b) → (H.upd c q) b = some r := fun c q h => by rw [Heap.upd_other _ _ (Ne.symm h)]; exact hb
    have fresh : ∀ c, H c = none → c ≠ b := fun c h e => by rw [e, hb] at h; cases h
    unfold aAppend at ha ⊢
    split at ha <;> try exact ha.elim
    split at ha <;> try exact ha.elim
    obtain ⟨g1, g2, g3, g4, ha⟩ := ha
    refine ⟨g1, g2, g3, g4, ?_⟩
    split at ha <;> try exact ha.elim
    · exact ⟨fun h => ⟨hb, ha.1 h⟩, fun h => ⟨(ha.2 h).1, fun c hc => ⟨up c _ (fresh c hc), (ha.2 h).2 c hc⟩⟩⟩
    · rename_i d s' i j
      split at ha <;> try exact ha.elim
      rename_i s'' l hd
      have hdb : d ≠ b := fun e => by rw [e, hb] at hd; cases hd; simp [Res.isBox] at hr
      obtain ⟨e1, e2, ha⟩ := ha
      refine ⟨e1, e2, ?_⟩
      have er : ∀ c q, c ≠ b → ((H.erase d).upd c q) b = some r := fun c q h => by rw [Heap.upd_other _ _ (Ne.symm h), Heap.erase_other _ (Ne.symm hdb)]; exact hb
      split at ha
      · rename_i hj
        rw [if_pos hj]
        refine ⟨ha.1, ?_⟩
        have ha := ha.2
        split at ha
        · rename_i hi
          rw [if_pos hi]
          exact fun b' hb' => ⟨er b' _ (hb'.elim (fun e => e ▸ hdb) (fresh b')), ha b' hb'⟩
        · rename_i hi
          rw [if_neg hi]
          exact ⟨⟨up d _ hdb, ha.1⟩, fun b' hb' => ⟨er b' _ (fresh b' hb'), ha.2 b' hb'⟩⟩
      · rename_i hj
        rw [if_neg hj]
        exact ⟨ha.1, up d _ hdb, ha.2⟩

theorem tame_one {P : Program} {ops : Array Oper} {o : Oper} {K : Env → Heap → Prop} {ρ : Env} {H : Heap} {b : Nat} {r : Res} (hc : tameOp P o.op = true) (hb : H b = some r) (hr : r.isBox = true) (h : aOne P ops o K ρ H) :
    aOne P ops o (fun ρ' H' => H' b = some r ∧ K ρ' H') ρ H := by
  unfold aOne at h ⊢
  split at h
  · exact tame_keeps hc hb hr h
  · exact aGuard_mono (tame_keeps hc hb hr) (fun h => ⟨hb, h⟩) h

/-- a load off a variable: its value, and where it is the same -/
theorem box_yields {P : Program} {op : Op} {ev : Operand → AV} {H : Heap} {K : AV → Heap → Prop} (hbx : onBox op ev H) (ha : aOp P op ev H K) :
    ∃ b r x, H b = some r ∧ r.isBox = true ∧ (∀ G, G b = some r → Yields P op ev G x) ∧ K x H := by
  unfold onBox at hbx
  split at hbx <;> try exact hbx.elim
  rename_i t a
  simp only [aOp] at ha
  split at hbx <;> try exact hbx.elim
  rename_i b off p hev
  split at hbx <;> try exact hbx.elim
  rename_i r hr
  rw [hev] at ha
  simp only [aLoad, hr] at ha
  split at ha <;> try exact ha.elim
  rename_i o y hat
  refine ⟨b, r, y, hr, hbx, fun G hG K' hk => ?_, ha.2.2⟩
  simp only [aOp, hev, aLoad, hG, hat]
  exact ⟨ha.1, ha.2.1, hk⟩

/-- no other operation that may still come ahead turns a variable -/
def tameRest (P : Program) (ops : Array Oper) (listed : Array Bool) (i : Nat) : Bool :=
  (List.range ops.size).all fun j => j == i || listed.getD j true || (match ops[j]? with | some o => tameOp P o.op | none => true) || (depsOf ops listed i ops.size).contains j

/-- 0: hangs on temporaries alone; 1: reads; 2: any other; 3: gives one value, whatever else is done; 4: reads a variable of our own -/
def chkOrd (P : Program) (ops : Array Oper) : List (Nat × Nat) → Array Bool → Bool
  | [], listed => (Region.ready .any ops listed).isEmpty
  | (i, c) :: r, listed => (Region.ready .any ops listed).contains i && (match c with
      | 0 => Region.free .any ops listed i && (match ops[i]? with | some o => calmOp P o.op | none => false)
      | 1 => Region.free .any ops listed i && (match ops[i]? with | some o => calmOp P o.op | none => false) && calmRest P ops listed i
      | 2 => (Region.ready .any ops listed) == [i]
      | 4 => Region.free .any ops listed i && tameRest P ops listed i
      | _ => Region.free .any ops listed i && calmRest P ops listed i) && chkOrd P ops r (listed.setIfInBounds i true)

/-- the operations, in an order -/
def aOrd (P : Program) (ops : Array Oper) (K : Env → Heap → Prop) : List (Nat × Nat) → Env → Heap → Prop
  | [], ρ, H => K ρ H
  | (i, c) :: r, ρ, H => match ops[i]? with
    | none => False
    | some o => match c with
      | 0 => aOne P ops o (fun ρ' _ => aOrd P ops K r ρ' H) ρ (fun _ => none)
      | 1 => aOne P ops o (aOrd P ops K r) ρ H
      | 2 => aOne P ops o (aOrd P ops K r) ρ H
      | 4 => o.guard = none ∧ onBox o.op ρ.eval H ∧ aOp P o.op ρ.eval H (fun x H' => aOrd P ops K r (ρ.put o.dst x) H')
      | _ => o.guard = none ∧ ∃ x, (∀ G, Heap.le H G → Yields P o.op ρ.eval G x) ∧ aOrd P ops K r (ρ.put o.dst x) H

theorem calm_one {P : Program} {ops : Array Oper} {o : Oper} {K : Env → Heap → Prop} {ρ : Env} {H : Heap} (hc : calmOp P o.op = true) (h : aOne P ops o K ρ H) : ∃ x, (∀ G, Heap.le H G → OYields P ops o ρ G x) ∧ K (ρ.put o.dst x) H := by
  unfold aOne at h
  unfold OYields
  split at h
  · exact calm_yields hc h
  · unfold aGuard at h
    split at h <;> try exact h.elim
    rename_i want _ _ t ht
    by_cases e : t = want
    · obtain ⟨x, h1, h2⟩ := calm_yields hc (h.1 e)
      exact ⟨x, fun G hG => ⟨t, ht, .inl ⟨e, h1 G hG⟩⟩, h2⟩
    · exact ⟨.any, fun G hG => ⟨t, ht, .inr ⟨e, rfl⟩⟩, h.2 e⟩

theorem grow_one {P : Program} {ops : Array Oper} {o : Oper} {K : Env → Heap → Prop} {ρ : Env} {H : Heap} (hc : growOp P o.op = true) (h : aOne P ops o K ρ H) : aOne P ops o (fun ρ' H' => Heap.le H H' ∧ K ρ' H') ρ H := by
  unfold aOne at h ⊢
  split at h
  · exact grow_keeps hc h
  · exact aGuard_mono (grow_keeps hc) (fun h => ⟨fun _ _ h => h, h⟩) h

theorem aOrd_ok {P : Program} {ops : Array Oper} {K : Env → Heap → Prop} (hK : Resp K) : ∀ (l : List (Nat × Nat)) (listed : Array Bool) (ρ : Env) (H : Heap), chkOrd P ops l listed = true → aOrd P ops K l ρ H → aAny P ops K l.length listed ρ H
  | [], listed, ρ, H, hc, h => ⟨by simpa [chkOrd] using hc, h⟩
  | (i, c) :: r, listed, ρ, H, hc, h => by
    simp only [chkOrd, Bool.and_eq_true] at hc
    obtain ⟨⟨h1, h2⟩, h3⟩ := hc
    have hr : i ∈ Region.ready .any ops listed := by simpa using h1
    simp only [aOrd] at h
    split at h <;> try exact h.elim
    rename_i o ho
    have rest : ∀ (x : AV), calmRest P ops listed i = true → Region.free .any ops listed i = true → (∀ G, Heap.le H G → OYields P ops o ρ G x) → aOrd P ops K r (ρ.put o.dst x) H → aAny P ops K (r.length + 1) listed ρ H := fun x hall hf hx hk => by
      refine aAny_first hK (Heap.le H) (depsOf ops listed i ops.size) ho _ listed ρ H (depsOf_spec _) (fun j oj hj hji hjD hun hno => ⟨Region.free_spec ho hf j oj hj hji hun hno, fun ρ1 H1 K1 hS h1 => ?_⟩) hr (fun G hG => hx G hG) (fun _ _ h => h) (aOrd_ok hK r _ _ H h3 hk)
      have hjlt : j < ops.size := (Array.getElem?_eq_some_iff.1 hj).1
      have := List.all_eq_true.1 hall j (List.mem_range.2 hjlt)
      simp only [hj, Bool.or_eq_true, beq_iff_eq, hji, hun, Bool.false_eq_true, or_false, false_or, List.contains_iff_mem, hjD] at this
      exact aOne_mono (fun _ _ ⟨ha, hb⟩ => ⟨fun b q hq => ha b q (hS b q hq), hb⟩) (grow_one this h1)
    match c, h, h2 with
    | 0, h, h2 =>
      simp only [Bool.and_eq_true, ho] at h2
      obtain ⟨hf, hcalm⟩ := h2
      obtain ⟨x, hx, hk⟩ := calm_one hcalm h
      exact aAny_first hK (fun _ => True) [] ho _ listed ρ H (fun _ h => by cases h) (fun j oj hj hji _ hun hno => ⟨Region.free_spec ho hf j oj hj hji hun hno, fun ρ H K _ h => aOne_mono (fun _ _ h => ⟨trivial, h⟩) h⟩) hr
        (fun G _ => hx G (fun b r hb => by cases hb)) trivial (aOrd_ok hK r _ _ H h3 hk)
    | 1, h, h2 =>
      simp only [Bool.and_eq_true, ho] at h2
      obtain ⟨⟨hf, hcalm⟩, hall⟩ := h2
      obtain ⟨x, hx, hk⟩ := calm_one hcalm h
      exact rest x hall hf hx hk
    | 2, h, h2 =>
      have hready : Region.ready .any ops listed = [i] := by simpa using h2
      refine ⟨fun h0 => (by rw [h0] at hr; cases hr), fun j hj oj hoj => ?_⟩
      rw [hready, List.mem_singleton] at hj
      subst hj
      rw [ho] at hoj; cases hoj
      exact aOne_mono (fun x H' hk => aOrd_ok hK r _ _ H' h3 hk) h
    | 3, h, h2 =>
      simp only [Bool.and_eq_true] at h2
      obtain ⟨hg, x, hx, hk⟩ := h
      refine rest x h2.2 h2.1 (fun G hG => ?_) hk
      unfold OYields
      rw [hg]
      exact hx G hG
    | 4, h, h2 =>
      simp only [Bool.and_eq_true] at h2
      obtain ⟨hf, hall⟩ := h2
      obtain ⟨hg, hbx, hop⟩ := h
      obtain ⟨b, r', x, hb, hr', hy, hk⟩ := box_yields hbx hop
      refine aAny_first hK (fun G => G b = some r') (depsOf ops listed i ops.size) ho _ listed ρ H (depsOf_spec _) (fun j oj hj hji hjD hun hno => ⟨Region.free_spec ho hf j oj hj hji hun hno, fun ρ1 H1 K1 hS h1 => ?_⟩) hr (fun G hG => ?_) hb (aOrd_ok hK r _ _ H h3 hk)
      · have hjlt : j < ops.size := (Array.getElem?_eq_some_iff.1 hj).1
        have := List.all_eq_true.1 hall j (List.mem_range.2 hjlt)
        simp only [hj, Bool.or_eq_true, beq_iff_eq, hji, hun, Bool.false_eq_true, or_false, false_or, List.contains_iff_mem, hjD] at this
        exact tame_one this hS hr' h1
      · unfold OYields
        rw [hg]
        exact hy G hG
    | c + 5, h, h2 =>
      simp only [Bool.and_eq_true] at h2
      obtain ⟨hg, x, hx, hk⟩ := h
      refine rest x h2.2 h2.1 (fun G hG => ?_) hk
      unfold OYields
      rw [hg]
      exact hx G hG

/-! ### against the model -/
theorem behind_trans {P : Program} {md : Region.Mode} {ops : Array Oper} {I I' : Nat → Nat → Prop} {w w' : World} {H H' : Heap} {N : Nat} {K : Env → Heap → Prop} (hE : Ext I w H I' w' H') :
    ∀ (n : Nat) (listed : Array Bool) (a : Act) (w1 : World), wpAny P md ops (Behind I' w' H' N K) n listed a w1 → wpAny P md ops (Behind I w H N K) n listed a w1 := by
  have hb : ∀ e a w1, Behind I' w' H' N K e a w1 → Behind I w H N K e a w1 := by
    rintro e a w1 ⟨e1, I2, ρ2, H2, q1, q2, q3, q4⟩
    exact ⟨e1, I2, ρ2, H2, q1, q2, q3, hE.trans q4⟩
  have hQ : ∀ {o : Oper} {a : Act} {w : World} {K : Act → World → Prop} {Q Q' : Exit → Act → World → Prop}, (∀ e a w, Q e a w → Q' e a w) → o.wp P a w K Q → o.wp P a w K Q' := by
    intro o a w K Q Q' hq hh
    unfold Oper.wp at *
    generalize (execOp a.eval o).run P w = r at *
    cases r with
    | ok n w' =>
      cases n <;> simp only [Oper.upon] at hh ⊢ <;> first
        | exact hh
        | exact Calls.mono hh (fun e w'' he => by
            cases e <;> first
              | exact he
              | exact hq _ _ _ he
              | (obtain ⟨a, w, h⟩ := he; exact ⟨a, w, hq _ _ _ h⟩))
    | halt x w' => cases x <;> simp only [Oper.upon] at hh ⊢ <;> first | exact hh | exact hq _ _ _ hh
  intro n
  induction n with
  | zero => intro listed a w1 h; exact ⟨h.1, hb _ _ _ h.2⟩
  | succ n ih =>
    intro listed a w1 h
    refine ⟨fun h0 => hb _ _ _ (h.1 h0), fun i hi => ?_⟩
    have h1 := h.2 i hi
    unfold wpOp at h1 ⊢
    split
    · rename_i ho; simp only [ho] at h1; exact ih _ _ _ h1
    · rename_i o ho
      simp only [ho] at h1
      split
      · rename_i hw
        simp only [hw, if_true] at h1
        rcases h1 with h1 | ⟨h1, a2, w2, h2⟩
        · exact .inl (hQ hb (Oper.wp_mono (fun a w h => ih _ a w h) h1))
        · exact .inr ⟨h1, a2, w2, by obtain ⟨e1, _⟩ := h2; cases e1⟩
      · rename_i hw
        simp only [hw, if_false, Bool.false_eq_true] at h1
        exact ih _ _ _ h1

theorem aAny_ok {P : Program} {ops : Array Oper} {K : Env → Heap → Prop} {N : Nat} (hd : ∀ (i : Nat) (o : Oper), ops[i]? = some o → ∀ d, o.dst = some d → d < N) :
    ∀ (n : Nat) (listed : Array Bool) (ρ : Env) (H : Heap) (I : Nat → Nat → Prop) (w : World) (a : Act), aAny P ops K n listed ρ H → Rel I w H → Regs I w N ρ a → wpAny P .any ops (Behind I w H N K) n listed a w
  | 0, listed, ρ, H, I, w, a, h, hR, hG => ⟨h.1, rfl, I, ρ, H, h.2, hR, hG, Ext.refl⟩
  | n + 1, listed, ρ, H, I, w, a, h, hR, hG => by
    refine ⟨fun h0 => ⟨rfl, I, ρ, H, h.1 h0, hR, hG, Ext.refl⟩, fun i hi => ?_⟩
    obtain ⟨_, o, ho, _⟩ := mem_ready.1 hi
    have h1 := h.2 i hi o ho
    unfold wpOp
    simp only [ho]
    have run : Region.wanted o (yielded ops a.tmps) = true → aOp P o.op ρ.eval H (fun x H' => aAny P ops K n (listed.setIfInBounds i true) (ρ.put o.dst x) H') →
        o.wp P a w (wpAny P .any ops (Behind I w H N K) n (listed.setIfInBounds i true)) (Behind I w H N K) := by
      intro _ h
      refine Oper.wp_mono ?_ (aOp_ok h hR hG)
      rintro a' w' ⟨y, x, I', H', rfl, hx, hk, hR', hE⟩
      exact behind_trans hE _ _ _ _ (aAny_ok hd n _ _ _ _ _ _ hk hR' (hG.put hE.lasts hx (hd i o ho)))
    have skip : aAny P ops K n (listed.setIfInBounds i true) (ρ.put o.dst .any) H → wpAny P .any ops (Behind I w H N K) n (listed.setIfInBounds i true) (a.put o.dst undef) w := fun h =>
      aAny_ok hd n _ _ _ _ _ _ h hR (hG.put ⟨fun _ _ h => ⟨h, rfl⟩, fun _ _ h => h⟩ (by simp [RepT, RepV]) (hd i o ho))
    unfold aOne at h1
    split at h1
    · rename_i hg
      have hw : Region.wanted o (yielded ops a.tmps) = true := by simp [Region.wanted, hg]
      rw [if_pos hw]; exact .inl (run hw h1)
    · rename_i j want hg
      unfold aGuard at h1
      split at h1 <;> try exact h1.elim
      rename_i t ht
      have hy := yielded_rep hG ht
      by_cases e : t = want
      · have hw : Region.wanted o (yielded ops a.tmps) = true := by simp [Region.wanted, hg, hy, e]
        rw [if_pos hw]; exact .inl (run hw (h1.1 e))
      · have hw : Region.wanted o (yielded ops a.tmps) = false := by simp [Region.wanted, hg, hy, e]
        rw [if_neg (by rw [hw]; simp)]; exact skip (h1.2 e)

/-- a region that draws its order: one order, checked, serves -/
theorem ACode.region_ord {P : Program} {N : Nat} {Q : Exit → Env → Heap → Prop} {ρ : Env} {H : Heap} {id : Nat} {l : List Oper} (ts : List Nat) (ord : List (Nat × Nat)) (hm : P.follows .mixedOrders = true) (hok : opsOk N l = true)
    (hn : ord.length = l.length) (hc : chkOrd P l.toArray ord (Array.replicate l.length false) = true)
    (h : ∀ K : Env → Heap → Prop, (∀ ρ1 H1, Q .normal ρ1 H1 → ∀ ρ0, Env.keep ρ0 ts = ρ1 → K ρ0 H1) → aOrd P l.toArray K ord ρ H) : ACode P N (.region id l.toArray true) Q ρ H := by
  intro I w a hR hG
  have hresp : Resp (fun ρ H => Q .normal (ρ.keep ts) H) := by
    intro ρ ρ' H hs hq
    have : ρ.keep ts = ρ'.keep ts := List.map_congr_left fun t _ => by rw [hs t]
    rwa [← this]
  have h1 := aOrd_ok hresp ord (Array.replicate l.length false) ρ H hc (h (fun ρ H => Q .normal (ρ.keep ts) H) (fun _ _ h _ e => e ▸ h))
  have h2 := aAny_ok (N := N) (fun i o ho => opsOk_mem hok (by have := Array.mem_of_getElem? ho; simpa using this)) _ _ _ _ I w.drew a h1 (drew_rel hR) (hG.lasts (drew_ext (H := H)).lasts)
  rw [hn] at h2
  have h3 : (Code.region id l.toArray true).wp P (Behind I w.drew H N (fun ρ H => Q .normal (ρ.keep ts) H)) a w := wp_region_any hm (by simpa using h2)
  refine Go.wp_mono h3 ?_
  rintro e a' w' ⟨rfl, I', ρ', H', q, r1, r2, x1⟩
  exact ⟨I', _, H', q, r1, r2.weaken (Env.get_keep ts ρ'), drew_ext.trans x1⟩

/-! ### words that are not laid open -/
theorem bOrd_ex : ∃ f : Program → Array Oper → (Env → Heap → Prop) → List (Nat × Nat) → Env → Heap → Prop, ∀ P ops K l ρ H, f P ops K l ρ H = aOrd P ops K l ρ H := ⟨_, fun _ _ _ _ _ _ => rfl⟩
noncomputable def bOrd : Program → Array Oper → (Env → Heap → Prop) → List (Nat × Nat) → Env → Heap → Prop := Classical.choose bOrd_ex
theorem bOrd_eq (P : Program) (ops : Array Oper) (K : Env → Heap → Prop) (l : List (Nat × Nat)) (ρ : Env) (H : Heap) : bOrd P ops K l ρ H = aOrd P ops K l ρ H := Classical.choose_spec bOrd_ex P ops K l ρ H
theorem bOrd_fun (P : Program) (ops : Array Oper) (K : Env → Heap → Prop) (l : List (Nat × Nat)) : bOrd P ops K l = aOrd P ops K l := by funext ρ H; exact bOrd_eq P ops K l ρ H

/-- behind an operation of an order: what it gives, where the resources are those ahead of it | those that it left -/
theorem bNext_ex : ∃ f : Program → Array Oper → (Env → Heap → Prop) → List (Nat × Nat) → Option Tmp → Env → AV → Heap → Prop, ∀ P ops K l d ρ x H, f P ops K l d ρ x H = bOrd P ops K l (ρ.put d x) H := ⟨_, fun _ _ _ _ _ _ _ _ => rfl⟩
noncomputable def bNext : Program → Array Oper → (Env → Heap → Prop) → List (Nat × Nat) → Option Tmp → Env → AV → Heap → Prop := Classical.choose bNext_ex
theorem bNext_eq (P : Program) (ops : Array Oper) (K : Env → Heap → Prop) (l : List (Nat × Nat)) (d : Option Tmp) (ρ : Env) (x : AV) (H : Heap) : bNext P ops K l d ρ x H = bOrd P ops K l (ρ.put d x) H := Classical.choose_spec bNext_ex P ops K l d ρ x H
/-- the same, where it is not to be laid open at once -/
theorem bHold_ex : ∃ f : Program → Array Oper → (Env → Heap → Prop) → List (Nat × Nat) → Option Tmp → Env → AV → Heap → Prop, ∀ P ops K l d ρ x H, f P ops K l d ρ x H = bOrd P ops K l (ρ.put d x) H := ⟨_, fun _ _ _ _ _ _ _ _ => rfl⟩
noncomputable def bHold : Program → Array Oper → (Env → Heap → Prop) → List (Nat × Nat) → Option Tmp → Env → AV → Heap → Prop := Classical.choose bHold_ex
theorem bHold_eq (P : Program) (ops : Array Oper) (K : Env → Heap → Prop) (l : List (Nat × Nat)) (d : Option Tmp) (ρ : Env) (x : AV) (H : Heap) : bHold P ops K l d ρ x H = bOrd P ops K l (ρ.put d x) H := Classical.choose_spec bHold_ex P ops K l d ρ x H
theorem bPure_ex : ∃ f : Program → Array Oper → (Env → Heap → Prop) → List (Nat × Nat) → Option Tmp → Env → Heap → AV → Heap → Prop, ∀ P ops K l d ρ H x G, f P ops K l d ρ H x G = bOrd P ops K l (ρ.put d x) H := ⟨_, fun _ _ _ _ _ _ _ _ _ => rfl⟩
noncomputable def bPure : Program → Array Oper → (Env → Heap → Prop) → List (Nat × Nat) → Option Tmp → Env → Heap → AV → Heap → Prop := Classical.choose bPure_ex
theorem bPure_eq (P : Program) (ops : Array Oper) (K : Env → Heap → Prop) (l : List (Nat × Nat)) (d : Option Tmp) (ρ : Env) (H : Heap) (x : AV) (G : Heap) : bPure P ops K l d ρ H x G = bOrd P ops K l (ρ.put d x) H := Classical.choose_spec bPure_ex P ops K l d ρ H x G
theorem bRun_ex : ∃ f : Program → Op → (Operand → AV) → (AV → Heap → Prop) → Heap → Prop, ∀ P op ev K H, f P op ev K H = aOp P op ev H K := ⟨fun P op ev K H => aOp P op ev H K, fun _ _ _ _ _ => rfl⟩
noncomputable def bRun : Program → Op → (Operand → AV) → (AV → Heap → Prop) → Heap → Prop := Classical.choose bRun_ex
theorem bRun_eq (P : Program) (op : Op) (ev : Operand → AV) (K : AV → Heap → Prop) (H : Heap) : bRun P op ev K H = aOp P op ev H K := Classical.choose_spec bRun_ex P op ev K H

/-- no resources -/
def noH : Heap := fun _ => none

/-- one operation of an order: it is taken apart by what it is -/
def bStep (P : Program) (ops : Array Oper) (K : Env → Heap → Prop) (c : Nat) (l : List (Nat × Nat)) (o : Oper) (ρ : Env) (H : Heap) : Prop :=
  match c with
  | 0 => match o.guard with
    | none => aOp P o.op ρ.eval noH (bPure P ops K l o.dst ρ H)
    | some (j, want) => aGuard (aYield ops ρ j) want (bRun P o.op ρ.eval (bPure P ops K l o.dst ρ H)) (bPure P ops K l o.dst ρ H .any) noH
  | 1 | 2 => match o.guard with
    | none => aOp P o.op ρ.eval H (bNext P ops K l o.dst ρ)
    | some (j, want) => aGuard (aYield ops ρ j) want (bRun P o.op ρ.eval (bNext P ops K l o.dst ρ)) (bNext P ops K l o.dst ρ .any) H
  | 4 => o.guard = none ∧ onBox o.op ρ.eval H ∧ aOp P o.op ρ.eval H (bNext P ops K l o.dst ρ)
  | _ => o.guard = none ∧ ∃ x, (∀ G, Heap.le H G → ∀ K' : AV → Heap → Prop, K' x G → aOp P o.op ρ.eval G K') ∧ bHold P ops K l o.dst ρ x H

section
variable {P : Program} {ops : Array Oper} {K : Env → Heap → Prop} {l : List (Nat × Nat)} {ρ : Env} {H : Heap} {i c : Nat}
theorem bOrd_nil : bOrd P ops K [] ρ H = K ρ H := by rw [bOrd_eq]; rfl
theorem aOrd_0 {o : Oper} (ho : ops[i]? = some o) : aOrd P ops K ((i, 0) :: l) ρ H = aOne P ops o (fun ρ' _ => aOrd P ops K l ρ' H) ρ (fun _ => none) := by simp only [aOrd, ho]
theorem aOrd_1 {o : Oper} (ho : ops[i]? = some o) : aOrd P ops K ((i, 1) :: l) ρ H = aOne P ops o (aOrd P ops K l) ρ H := by simp only [aOrd, ho]
theorem aOrd_2 {o : Oper} (ho : ops[i]? = some o) : aOrd P ops K ((i, 2) :: l) ρ H = aOne P ops o (aOrd P ops K l) ρ H := by simp only [aOrd, ho]
theorem aOrd_3 {o : Oper} (ho : ops[i]? = some o) : aOrd P ops K ((i, 3) :: l) ρ H = (o.guard = none ∧ ∃ x, (∀ G, Heap.le H G → Yields P o.op ρ.eval G x) ∧ aOrd P ops K l (ρ.put o.dst x) H) := by simp only [aOrd, ho]
theorem aOrd_4 {o : Oper} (ho : ops[i]? = some o) : aOrd P ops K ((i, 4) :: l) ρ H = (o.guard = none ∧ onBox o.op ρ.eval H ∧ aOp P o.op ρ.eval H (fun x H' => aOrd P ops K l (ρ.put o.dst x) H')) := by simp only [aOrd, ho]
theorem aOrd_s {o : Oper} (ho : ops[i]? = some o) : aOrd P ops K ((i, c + 5) :: l) ρ H = (o.guard = none ∧ ∃ x, (∀ G, Heap.le H G → Yields P o.op ρ.eval G x) ∧ aOrd P ops K l (ρ.put o.dst x) H) := by simp only [aOrd, ho]
theorem bOrd_some {o : Oper} (ho : ops[i]? = some o) : bOrd P ops K ((i, c) :: l) ρ H = bStep P ops K c l o ρ H := by
  rw [bOrd_eq]
  have e1 : bNext P ops K l o.dst ρ = fun x H' => aOrd P ops K l (ρ.put o.dst x) H' := by funext x H'; rw [bNext_eq, bOrd_fun]
  have e2 : bPure P ops K l o.dst ρ H = fun x _ => aOrd P ops K l (ρ.put o.dst x) H := by funext x G; rw [bPure_eq, bOrd_fun]
  have e3 : ∀ K', bRun P o.op ρ.eval K' = fun H => aOp P o.op ρ.eval H K' := by intro K'; funext H; rw [bRun_eq]
  have e4 : ∀ x, bHold P ops K l o.dst ρ x H = aOrd P ops K l (ρ.put o.dst x) H := by intro x; rw [bHold_eq, bOrd_fun]
  unfold bStep
  simp only [e1, e2, e3, e4]
  rcases c with _ | _ | _ | _ | _ | c
  · rw [aOrd_0 ho]; exact propext Iff.rfl
  · rw [aOrd_1 ho]; exact propext Iff.rfl
  · rw [aOrd_2 ho]; exact propext Iff.rfl
  · rw [aOrd_3 ho]; exact propext Iff.rfl
  · rw [aOrd_4 ho]; exact propext Iff.rfl
  · rw [aOrd_s ho]; exact propext Iff.rfl

/-- the operation at a place of the list, if there is one -/
def bAt (P : Program) (ops : Array Oper) (K : Env → Heap → Prop) (c : Nat) (l : List (Nat × Nat)) (ρ : Env) (H : Heap) : Option Oper → Prop
  | none => False
  | some o => bStep P ops K c l o ρ H
theorem bAt_some {o : Oper} : bAt P ops K c l ρ H (some o) = bStep P ops K c l o ρ H := rfl
theorem bOrd_cons : bOrd P ops K ((i, c) :: l) ρ H = bAt P ops K c l ρ H ops[i]? := by
  cases ho : ops[i]? with
  | some o => rw [bOrd_some ho]; rfl
  | none => rw [bOrd_eq]; simp only [aOrd, ho]; rfl
end

theorem bStep_0 {P : Program} {ops : Array Oper} {K : Env → Heap → Prop} {l : List (Nat × Nat)} {dst : Option Tmp} {op : Op} {ty : TypeId} {pos : String} {after : Array Edge} {ρ : Env} {H : Heap} :
    bStep P ops K 0 l ⟨dst, op, ty, pos, after, none⟩ ρ H = aOp P op ρ.eval noH (bPure P ops K l dst ρ H) := propext Iff.rfl
theorem bStep_0g {P : Program} {ops : Array Oper} {K : Env → Heap → Prop} {l : List (Nat × Nat)} {dst : Option Tmp} {op : Op} {ty : TypeId} {pos : String} {after : Array Edge} {ρ : Env} {H : Heap} {j : Nat} {want : Bool} :
    bStep P ops K 0 l ⟨dst, op, ty, pos, after, some (j, want)⟩ ρ H = aGuard (aYield ops ρ j) want (bRun P op ρ.eval (bPure P ops K l dst ρ H)) (bPure P ops K l dst ρ H .any) noH := propext Iff.rfl
theorem bStep_1 {P : Program} {ops : Array Oper} {K : Env → Heap → Prop} {l : List (Nat × Nat)} {dst : Option Tmp} {op : Op} {ty : TypeId} {pos : String} {after : Array Edge} {ρ : Env} {H : Heap} :
    bStep P ops K 1 l ⟨dst, op, ty, pos, after, none⟩ ρ H = aOp P op ρ.eval H (bNext P ops K l dst ρ) := propext Iff.rfl
theorem bStep_1g {P : Program} {ops : Array Oper} {K : Env → Heap → Prop} {l : List (Nat × Nat)} {dst : Option Tmp} {op : Op} {ty : TypeId} {pos : String} {after : Array Edge} {ρ : Env} {H : Heap} {j : Nat} {want : Bool} :
    bStep P ops K 1 l ⟨dst, op, ty, pos, after, some (j, want)⟩ ρ H = aGuard (aYield ops ρ j) want (bRun P op ρ.eval (bNext P ops K l dst ρ)) (bNext P ops K l dst ρ .any) H := propext Iff.rfl
theorem bStep_2 {P : Program} {ops : Array Oper} {K : Env → Heap → Prop} {l : List (Nat × Nat)} {dst : Option Tmp} {op : Op} {ty : TypeId} {pos : String} {after : Array Edge} {ρ : Env} {H : Heap} :
    bStep P ops K 2 l ⟨dst, op, ty, pos, after, none⟩ ρ H = aOp P op ρ.eval H (bNext P ops K l dst ρ) := propext Iff.rfl
theorem bStep_2g {P : Program} {ops : Array Oper} {K : Env → Heap → Prop} {l : List (Nat × Nat)} {dst : Option Tmp} {op : Op} {ty : TypeId} {pos : String} {after : Array Edge} {ρ : Env} {H : Heap} {j : Nat} {want : Bool} :
    bStep P ops K 2 l ⟨dst, op, ty, pos, after, some (j, want)⟩ ρ H = aGuard (aYield ops ρ j) want (bRun P op ρ.eval (bNext P ops K l dst ρ)) (bNext P ops K l dst ρ .any) H := propext Iff.rfl
theorem bStep_3 {P : Program} {ops : Array Oper} {K : Env → Heap → Prop} {l : List (Nat × Nat)} {dst : Option Tmp} {op : Op} {ty : TypeId} {pos : String} {after : Array Edge} {ρ : Env} {H : Heap} :
    bStep P ops K 3 l ⟨dst, op, ty, pos, after, none⟩ ρ H = ∃ x, (∀ G, Heap.le H G → ∀ K' : AV → Heap → Prop, K' x G → aOp P op ρ.eval G K') ∧ bHold P ops K l dst ρ x H := by
  have : bStep P ops K 3 l ⟨dst, op, ty, pos, after, none⟩ ρ H = ((none : Option (Nat × Bool)) = none ∧ ∃ x, (∀ G, Heap.le H G → ∀ K' : AV → Heap → Prop, K' x G → aOp P op ρ.eval G K') ∧ bHold P ops K l dst ρ x H) := propext Iff.rfl
  rw [this]; exact propext ⟨fun h => h.2, fun h => ⟨rfl, h⟩⟩

theorem bStep_4 {P : Program} {ops : Array Oper} {K : Env → Heap → Prop} {l : List (Nat × Nat)} {dst : Option Tmp} {op : Op} {ty : TypeId} {pos : String} {after : Array Edge} {ρ : Env} {H : Heap} :
    bStep P ops K 4 l ⟨dst, op, ty, pos, after, none⟩ ρ H = (onBox op ρ.eval H ∧ aOp P op ρ.eval H (bNext P ops K l dst ρ)) := by
  have : bStep P ops K 4 l ⟨dst, op, ty, pos, after, none⟩ ρ H = ((none : Option (Nat × Bool)) = none ∧ onBox op ρ.eval H ∧ aOp P op ρ.eval H (bNext P ops K l dst ρ)) := propext Iff.rfl
  rw [this]; exact propext ⟨fun h => h.2, fun h => ⟨rfl, h⟩⟩

/-- a region that draws its order: one order, checked, serves -/
theorem ACode.region_draw {P : Program} {N : Nat} {Q : Exit → Env → Heap → Prop} {ρ : Env} {H : Heap} {id : Nat} {l : List Oper} (ts : List Nat) (ord : List (Nat × Nat)) (hm : P.follows .mixedOrders = true) (hok : opsOk N l = true)
    (hn : ord.length = l.length) (hc : chkOrd P l.toArray ord (Array.replicate l.length false) = true)
    (h : ∀ K : Env → Heap → Prop, (∀ ρ1 H1, Q .normal ρ1 H1 → ∀ ρ0, Env.keep ρ0 ts = ρ1 → K ρ0 H1) → bOrd P l.toArray K ord ρ H) : ACode P N (.region id l.toArray true) Q ρ H :=
  .region_ord ts ord hm hok hn hc fun K hK => by have := h K hK; rwa [bOrd_eq] at this

/-- the same, and what is known behind it -/
theorem ACode.draw_cut {P : Program} {N : Nat} {Q : Exit → Env → Heap → Prop} {ρ : Env} {H : Heap} {id : Nat} {l : List Oper} (ts : List Nat) (ord : List (Nat × Nat)) (M : Env → Heap → Prop) (hm : P.follows .mixedOrders = true) (hok : opsOk N l = true)
    (hn : ord.length = l.length) (hc : chkOrd P l.toArray ord (Array.replicate l.length false) = true)
    (h : ∀ K : Env → Heap → Prop, (∀ ρ1 H1, M ρ1 H1 → ∀ ρ0, Env.keep ρ0 ts = ρ1 → K ρ0 H1) → bOrd P l.toArray K ord ρ H) (h2 : ∀ ρ H, M ρ H → Q .normal ρ H) : ACode P N (.region id l.toArray true) Q ρ H :=
  .region_draw ts ord hm hok hn hc fun K hK => h K fun ρ H hm => hK ρ H (h2 _ _ hm)

attribute [go_sem] bOrd_nil bOrd_cons bAt_some bNext_eq bPure_eq bRun_eq bStep_0 bStep_0g bStep_1 bStep_1g bStep_2 bStep_2g bStep_3 bStep_4 onBox Res.isBox

end Go.Flow
