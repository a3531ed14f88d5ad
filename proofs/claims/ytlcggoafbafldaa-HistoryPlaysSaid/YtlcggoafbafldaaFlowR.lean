/-
  From the form's readings to abstract values; from a walk to the form's answer. No condition.
-/
import Derived.Test.YtlcggoafbafldaaFlowN
import Derived.ProofKit
import Derived.OpenShut
import Derived.SizedLaws
import Derived.WideKeyArgs
set_option linter.unusedVariables false
namespace Go.Flow
open Go Go.ChangeShapes Go.WideShapes Go.ChangeAt Go.RowKit

/-- all cells that were there -/
def oldI (w : World) : Nat → Nat → Prop := fun b _ => b < w.heap.size

theorem oldI_rel (w : World) : Rel (oldI w) w (fun _ => none) := ⟨fun b r h => (by cases h), fun b o h => h⟩

/-- what reads at a type is one of these abstract values -/
structure Dec (P : Program) (t : TypeId) {α : Type} (e : α → AV) (ok : α → Prop) : Prop where
  read : ∀ {H : Type} (enc : TypeId × Value → H) (w : World) (base : Nat) (sp : Nat → Bool) (held : Bool) (fuel : Nat) (cs : List Value) (x : DataW H × List MemPlace),
    DataW.trod enc P w base sp held fuel t cs = some x → (∀ n ∈ x.1.weights P t, n ≤ reachBytes) → ∃ a : α, Rep (oldI w) w (e a) cs ∧ ok a

theorem Dec.map {P : Program} {t : TypeId} {α β : Type} {e : α → AV} {ok : α → Prop} (h : Dec P t e ok) {e' : β → AV} {ok' : β → Prop} (f : α → β) (he : ∀ a, e' (f a) = e a) (hok : ∀ a, ok a → ok' (f a)) : Dec P t e' ok' :=
  ⟨fun enc w base sp held fuel cs x hx hw => by
    obtain ⟨a, h1, h2⟩ := h.read enc w base sp held fuel cs x hx hw
    exact ⟨f a, by rw [he]; exact h1, hok a h2⟩
  ⟩

theorem Dec.int {P : Program} {t : TypeId} {k : IntKind} (ht : P.underlying t = some (.int k)) : Dec P t (fun n : Int => .v (.int k n)) (fun n => (Lit.int k n).wf = true) :=
  ⟨fun enc w base sp held fuel cs x hx _ => by
    obtain ⟨n, rfl, _, h⟩ := DataW.trod_int ht hx
    exact ⟨n, by simp [Rep, Value.oneCell'], h⟩
  ⟩

theorem Dec.bool {P : Program} {t : TypeId} (ht : P.underlying t = some .bool) : Dec P t boo (fun _ => True) :=
  ⟨fun enc w base sp held fuel cs x hx _ => by
    obtain ⟨b, rfl, _⟩ := DataW.trod_bool ht hx
    exact ⟨b, by simp [Rep, boo, Value.oneCell'], trivial⟩
  ⟩

theorem Dec.str {P : Program} {t : TypeId} (ht : P.underlying t = some .string) : Dec P t str (fun l => l.length ≤ reachBytes) :=
  ⟨fun enc w base sp held fuel cs x hx hw => by
    obtain ⟨s, rfl, rfl, _⟩ := DataW.trod_string ht hx
    exact ⟨s.data.toList, ⟨by rw [mkS_data], rfl⟩, hw _ (by simp [DataW.weights])⟩
  ⟩

/-! ### structs -/
structure DecFs (P : Program) (fs : List Field) (off n : Nat) {α : Type} (e : α → List AV) (ok : α → Prop) : Prop where
  read : ∀ {H : Type} (enc : TypeId × Value → H) (w : World) (base : Nat) (sp : Nat → Bool) (held : Bool) (fuel : Nat) (cs : List Value) (xs : List (DataW H × List MemPlace)),
    xs.length = fs.length → (∀ (i : Nat) (f : Field), fs[i]? = some f → DataW.trod enc P w base sp held fuel f.type ((cs.drop f.offset).take (P.cellsOf f.type)) = xs[i]?) → (∀ k ∈ DataW.weightsEach P (fs.map (·.type)) (xs.map (·.1)), k ≤ reachBytes) →
    ∃ a : α, Reps (oldI w) w (e a) ((cs.drop off).take n) ∧ ok a

theorem DecFs.nil {P : Program} {off : Nat} : DecFs P [] off 0 (fun _ : Unit => []) (fun _ => True) := ⟨fun enc w base sp held fuel cs xs _ _ _ => ⟨(), by simp only [Reps, List.take_zero], trivial⟩⟩

theorem DecFs.cons {P : Program} {f : Field} {fs : List Field} {off n : Nat} (m : Nat) {α β : Type} {e : α → AV} {ok : α → Prop} {e' : β → List AV} {ok' : β → Prop} (h : Dec P f.type e ok) (hoff : f.offset = off) (hm : P.cellsOf f.type = m)
    (h' : DecFs P fs (off + m) n e' ok') : DecFs P (f :: fs) off (n + m) (fun x : α × β => e x.1 :: e' x.2) (fun x => ok x.1 ∧ ok' x.2) :=
  ⟨fun enc w base sp held fuel cs xs hl hx hw => by
    cases xs with
    | nil => simp at hl
    | cons x0 xs =>
      have h0 := hx 0 f rfl
      rw [List.getElem?_cons_zero] at h0
      simp only [List.map_cons, DataW.weightsEach, List.mem_append] at hw
      obtain ⟨a, a1, a2⟩ := h.read enc w base sp held fuel _ _ h0 (fun k hk => hw k (.inl hk))
      obtain ⟨b, b1, b2⟩ := h'.read enc w base sp held fuel cs xs (by simpa using hl) (fun i f hf => by have := hx (i + 1) f (by simpa using hf); simpa using this) (fun k hk => hw k (.inr hk))
      refine ⟨(a, b), ?_, a2, b2⟩
      simp only [Reps]
      refine ⟨_, _, ?_, a1, b1⟩
      rw [hoff, hm, ← List.drop_drop, Nat.add_comm n m]
      exact List.take_add
  ⟩

theorem Dec.struct {P : Program} {t : TypeId} {fs : Array Field} (n : Nat) {α : Type} {e : α → List AV} {ok : α → Prop} (ht : P.underlying t = some (.struct fs)) (hn : P.cellsOf t = n) {l : List Field} (hl : fs.toList = l) (h : DecFs P l 0 n e ok) : Dec P t (fun a => .agg (e a)) ok :=
  ⟨fun enc w base sp held fuel cs x hx hw => by
    subst hl
    obtain ⟨xs, m, rfl, rfl, h1, h2, h3⟩ := DataW.trod_struct ht hx
    simp only [DataW.weights, ht] at hw
    obtain ⟨a, a1, a2⟩ := h.read enc w base sp held m cs xs (by simpa using h2) (fun i f hf => h3 i f (by simpa using hf)) hw
    refine ⟨a, ?_, a2⟩
    simp only [Rep]
    rw [List.drop_zero, List.take_of_length_le (by omega)] at a1
    exact a1
  ⟩

/-! ### slices -/
theorem cells_some {w : World} {base : Nat} {a : Addr} {n : Nat} {cs : List Value} (h : w.cells? base a n = some cs) : cs.length = n ∧ ∀ i, i < n → w.cell? (a.add i) = cs[i]? := by
  unfold World.cells? at h
  split at h
  · exact ⟨by simpa using mapM_some_length h, fun i hi => mapM_some_get h i i (by simp [hi])⟩
  · cases h

theorem cell_lt {w : World} {b o : Nat} {v : Value} (h : w.cell? ⟨b, o, none⟩ = some v) : b < w.heap.size := by
  rcases Nat.lt_or_ge b w.heap.size with h' | h'
  · exact h'
  · simp [World.cell?, Array.getElem?_eq_none h'] at h

theorem rows_read {α : Type} {e : α → AV} {ok : α → Prop} {w : World} {b s : Nat} : ∀ (len o : Nat), (∀ i, i < len → ∃ (cs : List Value) (x : α), cs.length = s ∧ (∀ j, j < s → w.cell? ⟨b, o + i * s + j, none⟩ = cs[j]?) ∧ Rep (oldI w) w (e x) cs ∧ ok x) →
    ∃ (l : List α) (cs : List Value), l.length = len ∧ cs.length = len * s ∧ (∀ j, j < len * s → w.cell? ⟨b, o + j, none⟩ = cs[j]?) ∧ Reps (oldI w) w (l.map e) cs ∧ ∀ x ∈ l, ok x
  | 0, o, _ => ⟨[], [], rfl, by simp, fun j hj => by simp at hj, by simp [Reps], fun x hx => by cases hx⟩
  | len + 1, o, h => by
    obtain ⟨c0, x0, h1, h2, h3, h4⟩ := h 0 (by omega)
    obtain ⟨l, cs, g1, g2, g3, g4, g5⟩ := rows_read len (o + s) fun i hi => by
      obtain ⟨c, x, k1, k2, k3⟩ := h (i + 1) (by omega)
      refine ⟨c, x, k1, fun j hj => ?_, k3⟩
      rw [← k2 j hj]
      congr 2
      rw [Nat.add_mul]; omega
    refine ⟨x0 :: l, c0 ++ cs, by simp [g1], by simp [h1, g2, Nat.add_mul]; omega, fun j hj => ?_, ?_, fun x hx => ?_⟩
    · by_cases hj0 : j < s
      · rw [List.getElem?_append_left (by omega), ← h2 j hj0]; simp
      · have hj' : j - s < len * s := by rw [Nat.add_mul] at hj; omega
        rw [List.getElem?_append_right (by omega), h1, ← g3 (j - s) hj']
        congr 2; omega
    · simp only [List.map_cons, Reps]
      exact ⟨c0, cs, rfl, h3, g4⟩
    · rcases List.mem_cons.1 hx with rfl | hx
      · exact h4
      · exact g5 x hx

theorem weightsAll_mem {H : Type} {P : Program} {e : TypeId} {d : DataW H} {n : Nat} : ∀ {l : List (DataW H)}, d ∈ l → n ∈ d.weights P e → n ∈ DataW.weightsAll P e l
  | x :: r, hd, hn => by
    rw [DataW.weightsAll, List.mem_append]
    rcases List.mem_cons.1 hd with rfl | hd
    · exact .inl hn
    · exact .inr (weightsAll_mem hd hn)

theorem Dec.slice {P : Program} {t et : TypeId} (s nb : Nat) {α : Type} {e : α → AV} {ok : α → Prop} (ht : P.underlying t = some (.slice et)) (hs : P.cellsOf et = s) (h0 : 0 < s) (hb : P.bytesOf et = nb) (hsz : ∀ a, (e a).size = s) (h : Dec P et e ok) :
    Dec P t (fun l : List α => .sl (l.map e)) (fun l => l.length * nb ≤ reachBytes ∧ ∀ a ∈ l, ok a) :=
  ⟨fun enc w base sp held fuel cs x hx hw => by
    rcases DataW.trod_slice ht hx with ⟨rfl, rfl⟩ | ⟨a, len, cap, elems, rest, n, rfl, rfl, rfl, h1, h2, h3, h4, h5, h6, h7⟩
    · refine ⟨[], ?_, by simp, fun a ha => by cases ha⟩
      simp only [Rep, List.map_nil]
      exact ⟨none, 0, [], rfl, by simp [Reps], ⟨0, by simp⟩, by simp, .inl (by simp)⟩
    · simp only [DataW.weights, ht, List.mem_cons, List.mem_append, List.length_map] at hw
      have hlen := hw _ (.inl rfl)
      rw [hb, h4] at hlen
      have key : ∀ i, i < len → ∃ (cs : List Value) (x : α), cs.length = s ∧ (∀ j, j < s → w.cell? ((a.add (i * s)).add j) = cs[j]?) ∧ Rep (oldI w) w (e x) cs ∧ ok x := fun i hi => by
        have g := h5 i hi
        have hie : i < elems.length := by omega
        rw [List.getElem?_eq_getElem hie, hs] at g
        obtain ⟨c, c1, c2⟩ := Option.bind_eq_some_iff.1 g
        obtain ⟨l1, l2⟩ := cells_some c1
        obtain ⟨x, x1, x2⟩ := h.read enc w base sp held n c _ c2 (fun k hk => hw k (.inr (.inl (weightsAll_mem (List.mem_map.2 ⟨_, List.getElem_mem hie, rfl⟩) hk))))
        exact ⟨c, x, l1, l2, x1, x2⟩
      by_cases hl0 : len = 0
      · subst hl0
        refine ⟨[], ?_, by simp, fun a ha => by cases ha⟩
        simp only [Rep, List.map_nil]
        exact ⟨some a, cap, [], rfl, by simp [Reps], ⟨0, by simp⟩, by simp, .inl (by simp)⟩
      · obtain ⟨c, x, k1, k2, _, _⟩ := key 0 (by omega)
        have hspot : a.spot = none := by
          have g := k2 0 h0
          rw [Nat.zero_mul] at g
          have e0 : (a.add 0).add 0 = a := by simp [Addr.add]
          have hc : 0 < c.length := by omega
          rw [e0, List.getElem?_eq_getElem hc] at g
          unfold World.cell? at g
          split at g
          · split at g
            · cases g
            · rename_i hsp; simpa using hsp
          · cases g
        obtain ⟨b, o, sp0⟩ := a
        simp only at hspot
        subst hspot
        obtain ⟨l, cs, g1, g2, g3, g4, g5⟩ := rows_read (e := e) (ok := ok) (w := w) (b := b) (s := s) len o fun i hi => by
          obtain ⟨c, x, k1, k2, k3⟩ := key i hi
          exact ⟨c, x, k1, fun j hj => by rw [← k2 j hj, add_none, add_none], k3⟩
        refine ⟨l, ?_, by rw [g1]; exact Nat.le_trans (Nat.mul_le_mul_right nb (by omega)) hlen, g5⟩
        simp only [Rep]
        refine ⟨_, cap, cs, by rw [List.length_map, g1], g4, ⟨s, fun x hx => ?_⟩, by rw [List.length_map, g1]; exact h2, .inr ⟨b, o, rfl, fun i hi => ?_⟩⟩
        · obtain ⟨y, _, rfl⟩ := List.mem_map.1 hx; exact hsz y
        · have g := g3 i (by rw [← g2]; exact hi)
          refine ⟨?_, g⟩
          rw [List.getElem?_eq_getElem hi] at g
          exact cell_lt g
  ⟩

/-- one argument -/
theorem Dec.arg {P : Program} {t : TypeId} {α : Type} {e : α → AV} {ok : α → Prop} (h : Dec P t e ok) (hag : ∀ a, (e a).isAgg = false) {H : Type} {enc : TypeId × Value → H} {w : World} {base : Nat} {sp : Nat → Bool} {held : Bool} {v : Value} {d : DataW H} {ps : List MemPlace}
    (hv : v.cells = #[v]) (hd : DataW.Trod enc P w base sp held t v d ps) (hw : ∀ n ∈ d.weights P t, n ≤ reachBytes) : ∃ a : α, RepV (oldI w) w (e a) v ∧ ok a := by
  obtain ⟨fuel, hf⟩ := hd
  obtain ⟨a, a1, a2⟩ := h.read enc w base sp held fuel _ _ hf hw
  rw [hv] at a1
  exact ⟨a, RepV.of_cell (hag a) a1, a2⟩

theorem Dec.argAgg {P : Program} {t : TypeId} {α : Type} {e : α → AV} {ok : α → Prop} (h : Dec P t e ok) (hag : ∀ a, (e a).isAgg = true) {H : Type} {enc : TypeId × Value → H} {w : World} {base : Nat} {sp : Nat → Bool} {held : Bool} {cs : Array Value} {d : DataW H} {ps : List MemPlace}
    (hd : DataW.Trod enc P w base sp held t (.agg cs) d ps) (hw : ∀ n ∈ d.weights P t, n ≤ reachBytes) : ∃ a : α, RepV (oldI w) w (e a) (.agg cs) ∧ ok a := by
  obtain ⟨fuel, hf⟩ := hd
  obtain ⟨a, a1, a2⟩ := h.read enc w base sp held fuel _ _ hf hw
  have := RepV.of_cells_agg (hag a) a1
  simp only [Value.cells, Array.toArray_toList] at this
  exact ⟨a, this, a2⟩

/-! ### the answer -/
/-- what was there is as it was -/
def Kept (w w' : World) : Prop := w'.os = w.os ∧ w'.output = w.output ∧ w.heap.size ≤ w'.heap.size ∧ ∀ b, b < w.heap.size → w'.heap[b]? = w.heap[b]?

theorem Kept.keptBut {w w' : World} (h : Kept w w') (may : MemPlace → Prop) : w.keptBut w' may := by
  obtain ⟨h1, h2, _, h4⟩ := h
  refine ⟨h1, h2, fun i hi => ?_⟩
  rw [h4 i hi]
  cases hb : w.heap[i]? with
  | none => trivial
  | some o => cases o <;> simp

theorem Kept.sameAt {w w' : World} (h : Kept w w') {p : MemPlace} (hp : p.block < w.heap.size) : w.sameAt w' p := by
  obtain ⟨_, _, _, h4⟩ := h
  cases p with
  | cell b o => simp only [World.sameAt]; exact cell_eq_of_heap (h4 b hp) o
  | map b => simp only [World.sameAt]; exact h4 b hp

/-- a call that answers, out of a walk -/
theorem calls_of {P : Program} {f : FuncId} {avs : List AV} {r : Value} {w : World} {args : Array Value} (h : ∀ K : AV → Heap → Prop, K (.v r) (fun _ => none) → ACalls P f avs (fun _ => none) K) (ha : RepVs (oldI w) w avs args.toList) :
    Calls P f args w fun e w' => e = .returned r ∧ Kept w w' := by
  have h1 := (h (fun x H' => x = .v r ∧ H' = fun _ => none) ⟨rfl, rfl⟩).2 (oldI w) w args.toList (oldI_rel w) ha
  simp only [Array.toArray_toList] at h1
  refine h1.mono ?_
  rintro e w' ⟨y, rfl, I', x, H', ⟨rfl, rfl⟩, hx, hR, hE⟩
  simp only [RepT, RepV] at hx
  subst hx
  exact ⟨rfl, hE.os, hE.output, hE.size, fun b hb => (hE.frame b hb rfl).1⟩

/-- a law's answer: true, and the arguments read as before -/
theorem post_law {H : Type} {enc : TypeId × Value → H} {P : Program} {f : Func} {s : ChangeSpec} {fresh handsOn : Bool} {W W' : World} {args : Array Value} {ds : List (DataW H)} {before : List MemPlace}
    (hl : laidOutB P = true) (hrd : ∀ t ∈ f.params.toList, P.readableRec t = true ∧ t < P.types.size) (hvars : s.vars = [])
    (hW : DataW.Whole enc P f.params.toList s.vars false W args.toList ds [] before) {b : TypeId} (hb : P.underlying b = some .bool) (hres : f.resultTypes = #[b])
    (hfn : s.fn H (ds ++ []) = { results := [.lit (.bool true)], args := ds }) (hk : Kept W W') : s.post enc P f false fresh handsOn false W args (.bool true) W' := by
  have hlt : ∀ p ∈ before, p.block < W.heap.size := hW.lt
  obtain ⟨p, q, hA, hV, rfl, hfz, hnd⟩ := hW
  have hV2 := hV
  rw [hvars] at hV2
  obtain ⟨-, rfl⟩ := trodVars_none hV2
  have stays : ∀ (ts : List TypeId) (vs : List Value) (ds : List (DataW H)) (ps : List MemPlace), (∀ t ∈ ts, P.readableRec t = true ∧ t < P.types.size) → (∀ x ∈ ps, x.block < W.heap.size) → DataW.TrodAll enc P W 0 (fun _ => true) true ts vs ds ps →
      DataW.TrodAll enc P W' 0 (fun b => decide (b < W.heap.size)) true ts vs ds ps := by
    intro ts
    induction ts with
    | nil => intro vs ds ps _ _ h; cases vs <;> cases ds <;> simp only [DataW.TrodAll] at h ⊢; exact h
    | cons t ts ih =>
      intro vs ds ps h1 h2 h
      cases vs <;> cases ds <;> simp only [DataW.TrodAll] at h ⊢
      obtain ⟨p, q, g1, g2, rfl⟩ := h
      obtain ⟨r1, r2⟩ := h1 t (by simp)
      exact ⟨p, q, WideElems.Trod_stays hl r1 r2 g1 (fun x hx => hk.sameAt (h2 x (by simp [hx]))) (fun x hx => by simpa using h2 x (by simp [hx])), ih _ _ _ (fun t ht => h1 t (by simp [ht])) (fun x hx => h2 x (by simp [hx])) g2, rfl⟩
  refine ⟨ds, [], _, [], p, [], ⟨p, _, hA, hV, rfl, hfz, hnd⟩, ?_, ?_, ?_, hk.keptBut _, fun h => (by cases h)⟩
  · rw [hfn, hres]
    exact ⟨[], [], ⟨1, by simp [DataW.trod, Value.cells, hb]⟩, rfl, rfl⟩
  · rw [hfn]
    exact stays _ _ _ _ hrd (fun x hx => hlt x (by simp [hx])) hA
  · rw [hvars, hfn]; rfl

end Go.Flow
