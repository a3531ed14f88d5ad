/-
  The law HistoryPlays: for every input it returns true, and its arguments read as before. No condition.
-/
import Derived.Test.YtlcggoafbafldaaFlowR
import Derived.Test.YtlcggoafbafldaaHistY
import Derived.Test.YtlcggoafbafldaaRows
set_option linter.unusedVariables false
namespace Go.Proofs.Ytlcggoafbafldaa
open Go Go.Flow Go.ChangeShapes Go.WideShapes Go.ChangeAt Go.RowKit

theorem own : ownKnob Try.prog.godebug = none := by kernel_rfl
theorem laidOut : laidOutB Try.prog = true := by kernel_rfl

theorem c55 : Try.prog.cellsOf 55 = 2 := by kernel_rfl
theorem c57 : Try.prog.cellsOf 57 = 3 := by kernel_rfl
theorem c60 : Try.prog.cellsOf 60 = 2 := by kernel_rfl
theorem c35' : Try.prog.cellsOf 35 = 4 := by kernel_rfl
theorem c9' : Try.prog.cellsOf 9 = 1 := by kernel_rfl
theorem c3' : Try.prog.cellsOf 3 = 1 := by kernel_rfl
theorem c58 : Try.prog.cellsOf 58 = 1 := by kernel_rfl
theorem c33' : Try.prog.cellsOf 33 = 1 := by kernel_rfl

theorem decMod : Dec Try.prog 55 eMod (fun m => m.Name.length ≤ reachBytes ∧ m.Text.length ≤ reachBytes) :=
  (Dec.struct 2 Try.underlying55 c55 rfl (DecFs.cons 1 (Dec.str Try.underlying9) rfl c9' (DecFs.cons 1 (Dec.str Try.underlying9) rfl c9' DecFs.nil))).map
    (fun x => ⟨x.1, x.2.1⟩) (fun _ => rfl) (fun _ h => ⟨h.1, h.2.1⟩)
theorem decEdit : Dec Try.prog 57 eEdit (fun x => x.Text.length ≤ reachBytes) :=
  (Dec.struct 3 Try.underlying57 c57 rfl (DecFs.cons 1 (Dec.int Try.underlying3) rfl c3' (DecFs.cons 1 (Dec.int Try.underlying3) rfl c3' (DecFs.cons 1 (Dec.str Try.underlying9) rfl c9' DecFs.nil)))).map
    (fun x => ⟨x.1, x.2.1, x.2.2.1⟩) (fun _ => rfl) (fun _ h => h.2.2.1)
theorem decEdits : Dec Try.prog 58 (fun l : List Edit => .sl (l.map eEdit)) (fun l => l.length * 32 ≤ reachBytes ∧ ∀ x ∈ l, x.Text.length ≤ reachBytes) :=
  Dec.slice 3 32 Try.underlying58 (by kernel_rfl) (by decide) (by kernel_rfl) eEdit_size decEdit
theorem decChange : Dec Try.prog 60 eChange (fun c => c.Edits.length * 32 ≤ reachBytes ∧ ∀ x ∈ c.Edits, x.Text.length ≤ reachBytes) :=
  (Dec.struct 2 Try.underlying60 c60 rfl (DecFs.cons 1 (Dec.str Try.underlying9) rfl c9' (DecFs.cons 1 decEdits rfl c58 DecFs.nil))).map
    (fun x => ⟨x.1, x.2.1⟩) (fun _ => rfl) (fun _ h => h.2.1)
theorem decChanges : Dec Try.prog 33 (fun l : List Change => .sl (l.map eChange)) (fun l => l.length * 40 ≤ reachBytes ∧ ∀ c ∈ l, c.Edits.length * 32 ≤ reachBytes ∧ ∀ x ∈ c.Edits, x.Text.length ≤ reachBytes) :=
  Dec.slice 2 40 Try.underlying33 (by kernel_rfl) (by decide) (by kernel_rfl) eChange_size decChange
theorem decOp : Dec Try.prog 35 eOp OpSized :=
  (Dec.struct 4 Try.underlying35 c35' rfl (DecFs.cons 1 (Dec.int Try.underlying3) rfl c3' (DecFs.cons 1 (Dec.int Try.underlying3) rfl c3' (DecFs.cons 1 (Dec.str Try.underlying9) rfl c9' (DecFs.cons 1 decChanges rfl c33' DecFs.nil))))).map
    (fun x => ⟨x.1, x.2.1, x.2.2.1, x.2.2.2.1⟩) (fun _ => rfl) (fun x h => by
      obtain ⟨_, _, h1, ⟨h2, h3⟩, _⟩ := h
      have hr : reachBytes = 140737488351232 := rfl
      rw [hr] at h1 h2 h3
      refine ⟨by simp only; omega, by simp only; omega, fun c hc => ?_⟩
      obtain ⟨h4, h5⟩ := h3 c hc
      exact ⟨by omega, fun y hy => by have := h5 y hy; omega⟩)
theorem decMods : Dec Try.prog 22 (fun l : List Mod => .sl (l.map eMod)) (fun l => l.length * 32 ≤ reachBytes ∧ ∀ m ∈ l, m.Name.length ≤ reachBytes ∧ m.Text.length ≤ reachBytes) :=
  Dec.slice 2 32 Try.underlying22 (by kernel_rfl) (by decide) (by kernel_rfl) eMod_size decMod
theorem decOps : Dec Try.prog 23 (fun l : List OpV => .sl (l.map eOp)) (fun l => l.length * 56 ≤ reachBytes ∧ ∀ o ∈ l, OpSized o) :=
  Dec.slice 4 56 Try.underlying23 (by kernel_rfl) (by decide) (by kernel_rfl) (fun o => by simp [eOp, AV.size, AV.sizes, int, str]) decOp

set_option maxRecDepth 100000 in
theorem lifted (os : Os) (started : os.Started) (H : Type) (enc : TypeId × Value → H) :
    ReturnsInHanded {} Try.checked os 3 .any (Rows.historyPlaysSpec.pre6 enc Try.prog Try.f3 Rows.historyPlaysRow.domain false) (Rows.historyPlaysSpec.post enc Try.prog Try.f3 false true false false) := by
  refine returnsInHanded_of_change_sized (C := Try.checked) own started (by kernel_rfl) Try.func3
    (ChangeSpec.witness6 (enc := enc) (C := Try.checked) false ⟨#[], #[.slice none 0 0, .slice none 0 0], []⟩ 8 (by kernel_rfl) (by kernel_rfl) (by kernel_rfl) (by kernel_rfl)) ?_
  intro W base args ds gs before hval0 hW hcnd hsz0 _
  have hval : ∀ (j : Nat) t v, Try.f3.params[j]? = some t → args[j]? = some v → Value.okWide Try.prog W .any base t v := hval0
  have hsz : (DataW.weightsEach Try.prog (Try.f3.params.toList ++ Rows.historyPlaysSpec.plain.varTypes Try.prog) (ds ++ gs)).all (· ≤ reachBytes) = true := hsz0
  have hW' := hW
  obtain ⟨p, q, hA0, hV, rfl, hfz, hnd⟩ := hW
  have hA : DataW.TrodAll enc Try.prog W 0 (fun _ => true) true Try.f3.params.toList args.toList ds p := hA0
  rw [Try.params3] at hA hval hsz
  obtain ⟨v0, v1, d0, d1, p0, p1, rfl, rfl, rfl, h0, h1⟩ := trodAll_two hA
  obtain ⟨rfl, rfl⟩ := trodVars_none hV
  obtain ⟨a0, n0, c0, e0⟩ := okWide_slice Try.underlying22 (hval 0 22 v0 rfl rfl)
  obtain ⟨a1, n1, c1, e1⟩ := okWide_slice Try.underlying23 (hval 1 23 v1 rfl rfl)
  have w0 : ∀ n ∈ d0.weights Try.prog 22, n ≤ reachBytes := fun n hn => by
    have := List.all_eq_true.1 hsz n (DataW.weights_mem_each (j := 0) rfl rfl n hn)
    simpa using this
  have w1 : ∀ n ∈ d1.weights Try.prog 23, n ≤ reachBytes := fun n hn => by
    have := List.all_eq_true.1 hsz n (DataW.weights_mem_each (j := 1) rfl rfl n hn)
    simpa using this
  obtain ⟨l, r0, l1, l2⟩ := decMods.arg (fun _ => rfl) (by rw [e0]; rfl) h0 w0
  obtain ⟨ops, r1, o1, o2⟩ := decOps.arg (fun _ => rfl) (by rw [e1]; rfl) h1 w1
  have hr : reachBytes = 140737488351232 := rfl
  rw [hr] at l1 l2 o1
  refine (calls_of (avs := [.sl (l.map eMod), .sl (ops.map eOp)]) (r := .bool true) (fun K hK => c3 l ops (by omega) (fun m hm => by have := l2 m hm; omega) (by omega) o2 _ K hK) (by
    simp only [RepVs]
    exact ⟨v0, [v1], rfl, r0, v1, [], rfl, r1, rfl⟩)).mono fun e W' ⟨he, hk⟩ => ?_
  refine ⟨_, he, post_law laidOut (fun t ht => ?_) rfl hW' Try.underlying4 rfl rfl hk⟩
  rw [Try.params3] at ht
  simp only [List.mem_cons, List.not_mem_nil, or_false] at ht
  rcases ht with rfl | rfl
  · exact ⟨by kernel_rfl, of_decide_eq_true (by kernel_rfl)⟩
  · exact ⟨by kernel_rfl, of_decide_eq_true (by kernel_rfl)⟩

theorem historyPlays_holds : Rows.HistoryPlaysSaid :=
  OpenClaim.holds_of_wide 3 Try.f3 rfl rfl rfl rfl rfl rfl rfl ⟨rfl, rfl, rfl, rfl, rfl⟩ rfl rfl rfl rfl rfl (by kernel_rfl) Try.func3 (by kernel_rfl)
    (of_decide_eq_true (by kernel_rfl)) (by unfold Func.isWrapper; first | (rw [if_pos (by decide +kernel)]; kernel_rfl) | (rw [if_neg (by decide +kernel)]; exact ⟨rfl, rfl⟩))
    (fun os started H enc _ => lifted os started H enc)

end Go.Proofs.Ytlcggoafbafldaa

