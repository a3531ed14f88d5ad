/-
  Structs built, slices built, cut and appended to, against abstract values. No condition.
-/
import Derived.Test.YtlcggoafbafldaaFlowD
set_option linter.unusedSectionVars false
set_option linter.unusedVariables false
namespace Go.Flow
open Go

/-! ### building -/
def setParts : List AV → List (Nat × AV) → List AV
  | l, [] => l
  | l, (i, x) :: r => setParts (l.set i x) r

def partsOk (place : Nat → Option (Nat × Nat)) : List AV → List (Nat × AV) → Bool
  | _, [] => true
  | l, (i, x) :: r => match l[i]?, place i with
    | some y, some (o, s) => x.solid && x.size == y.size && s == x.size && o == AV.sizes (l.take i) && partsOk place (l.set i x) r
    | _, _ => false

inductive PartsRep (I : Nat → Nat → Prop) (w : World) : List (Nat × AV) → List (Nat × Value) → Prop
  | nil : PartsRep I w [] []
  | cons {i : Nat} {x : AV} {y : Value} {r : List (Nat × AV)} {q : List (Nat × Value)} (h : RepT I w x y) (t : PartsRep I w r q) : PartsRep I w ((i, x) :: r) ((i, y) :: q)

theorem fold_set_toList : ∀ (vs : List Value) (k off : Nat) (cs : Array Value), off + k + vs.length ≤ cs.size →
    ((vs.zipIdx k).foldl (fun (cs : Array Value) (cj : Value × Nat) => cs.setIfInBounds (off + cj.2) cj.1) cs).toList = cs.toList.take (off + k) ++ vs ++ cs.toList.drop (off + k + vs.length)
  | [], k, off, cs, h => by simp
  | v :: r, k, off, cs, h => by
    simp only [List.zipIdx_cons, List.foldl_cons]
    rw [fold_set_toList r (k + 1) off (cs.setIfInBounds (off + k) v) (by simp at h ⊢; omega)]
    have hk : off + k < cs.toList.length := by simp at h ⊢; omega
    have e := list_seg_step cs.toList (off + k) v r (by simp at h ⊢; omega)
    simpa [Array.toList_setIfInBounds, Nat.add_assoc] using e

theorem Reps.set {I : Nat → Nat → Prop} {w : World} {l : List AV} {cs : List Value} {i : Nat} {x y : AV} {c : List Value} (h : Reps I w l cs) (hy : l[i]? = some y) (hs : x.size = y.size) (hc : Rep I w x c) :
    AV.sizes (l.take i) + c.length ≤ cs.length ∧ Reps I w (l.set i x) (cs.take (AV.sizes (l.take i)) ++ c ++ cs.drop (AV.sizes (l.take i) + c.length)) := by
  have hi : i < l.length := by
    rcases Nat.lt_or_ge i l.length with h' | h'
    · exact h'
    · simp [List.getElem?_eq_none h'] at hy
  have el : l = l.take i ++ (y :: l.drop (i + 1)) := by
    rw [List.getElem?_eq_getElem hi] at hy
    rw [← Option.some.inj hy, ← List.drop_eq_getElem_cons hi, List.take_append_drop]
  have h' := h
  rw [el] at h'
  obtain ⟨d1, d2, f1, f2, f3⟩ := Reps.split h'
  simp only [Reps] at f3
  obtain ⟨x1, x2, g1, g2, g3⟩ := f3
  have l1 := Reps.length _ _ f2
  have l2 := Rep.length _ _ g2
  have l3 := Rep.length _ _ hc
  have es : l.set i x = l.take i ++ (x :: l.drop (i + 1)) := by rw [List.set_eq_take_append_cons_drop, if_pos hi]
  have hlen : c.length = x1.length := by omega
  refine ⟨by rw [f1, g1]; simp; omega, ?_⟩
  rw [es, f1, g1, ← l1]
  have e1 : (d1 ++ (x1 ++ x2)).take d1.length = d1 := by simp
  have e2 : (d1 ++ (x1 ++ x2)).drop (d1.length + c.length) = x2 := by
    rw [hlen, ← List.append_assoc, List.drop_append_of_le_length (by simp), List.drop_eq_nil_of_le (by simp)]; simp
  rw [e1, e2, List.append_assoc]
  refine Reps.append f2 ?_
  simp only [Reps]
  exact ⟨c, x2, rfl, hc, g3⟩

theorem fill_ok {I : Nat → Nat → Prop} {w : World} {place : Nat → Option (Nat × Nat)} : ∀ {parts : List (Nat × AV)} {ps : List (Nat × Value)} {l : List AV} {cs : Array Value},
    PartsRep I w parts ps → partsOk place l parts = true → Reps I w l cs.toList → ∃ cs', Instr.fill place cs ps = some cs' ∧ Reps I w (setParts l parts) cs'.toList
  | [], _, l, cs, hp, _, hr => by
    cases hp
    exact ⟨cs, rfl, hr⟩
  | (i, x) :: r, _, l, cs, hp, ho, hr => by
    cases hp with
    | cons h t =>
      rename_i y q
      simp only [partsOk] at ho
      split at ho
      · rename_i z o s hz hpl
        simp only [Bool.and_eq_true, beq_iff_eq] at ho
        obtain ⟨⟨⟨⟨h1, h2⟩, h3⟩, h4⟩, h5⟩ := ho
        have hc := RepV.cells h1 (RepT.V h1 h)
        have hlen := Rep.length _ _ hc
        obtain ⟨hle, hset⟩ := Reps.set hr hz h2 hc
        have hsz : y.cells.size = s := by rw [← Array.length_toList, hlen, h3]
        have hfit : o + y.cells.size ≤ cs.size := by rw [h4, ← Array.length_toList, ← Array.length_toList]; exact hle
        have hfold := fold_set_toList y.cells.toList 0 o cs (by simpa using hfit)
        obtain ⟨cs', e1, e2⟩ := fill_ok (place := place) (cs := y.cells.zipIdx.foldl (fun cs (c, j) => cs.setIfInBounds (o + j) c) cs) t h5 (by
          have e0 : (y.cells.zipIdx.foldl (fun (cs : Array Value) (cj : Value × Nat) => cs.setIfInBounds (o + cj.2) cj.1) cs).toList = cs.toList.take o ++ y.cells.toList ++ cs.toList.drop (o + y.cells.toList.length) := by
            rw [← Array.foldl_toList, Array.toList_zipIdx]
            simpa using hfold
          show Reps I w (l.set i x) (y.cells.zipIdx.foldl (fun (cs : Array Value) (cj : Value × Nat) => cs.setIfInBounds (o + cj.2) cj.1) cs).toList
          rw [e0, h4]; exact hset)
        refine ⟨cs', ?_, e2⟩
        simp only [Instr.fill, hpl]
        have : ¬ ((y.cells.size ≠ s || decide (o + y.cells.size > cs.size)) = true) := by simp [hsz]; omega
        rw [if_neg (by simpa using this)]
        exact e1
      · cases ho

/-- the parts' places in a struct -/
def placesT (P : Program) (t : TypeId) : Option (List (Nat × Nat)) :=
  match P.underlying t with
  | some (.struct fs) => fs.toList.mapM (fun f => (P.info? f.type).map fun i => (f.offset, i.size))
  | _ => none

def aBuild (P : Program) (t : TypeId) (parts : List (Nat × AV)) (H : Heap) (K : AV → Heap → Prop) : Prop :=
  match zeroA P t, placesT P t with
  | some (.agg l), some ps => partsOk (ps[·]?) l parts = true ∧ K (.agg (setParts l parts)) H
  | _, _ => False

theorem aBuild_ok {P : Program} {t : TypeId} {parts : List (Nat × AV)} {ps : Array (Nat × Value)} {I : Nat → Nat → Prop} {w : World} {H : Heap} {K : AV → Heap → Prop} (h : aBuild P t parts H K)
    (hp : PartsRep I w parts ps.toList) (hR : Rel I w H) : SemOk P (Instr.build t ps) I w H K := by
  unfold aBuild at h
  split at h <;> try exact h.elim
  rename_i l places hz hpl
  obtain ⟨ho, hk⟩ := h
  obtain ⟨i, z, h1, h2, h3, h4, _⟩ := zeroA_spec hz
  have hr := h3 I w
  simp only [Rep] at hr
  obtain ⟨cs', e1, e2⟩ := fill_ok hp ho hr
  unfold placesT at hpl
  split at hpl <;> try cases hpl
  rename_i fs hu
  have hb : P.built t ps.toList = some cs' := by
    unfold Program.built
    simp only [h1, hu, h2, hpl]
    simpa using e1
  refine .same (run_build w t ps cs' hb) ?_ hk hR
  simp only [RepT, RepV]
  exact ⟨cs'.toList, by simp, e2⟩

theorem range_cells (z : Array Value) : ∀ n : Nat, ((List.range (n * z.size)).map fun i => z[i % z.size]!) = (List.replicate n z.toList).flatten
  | 0 => by simp
  | n + 1 => by
    rw [Nat.add_mul, Nat.one_mul, Nat.add_comm, List.range_add, List.map_append, List.map_map, List.replicate_succ, List.flatten_cons, ← range_cells z n]
    congr 1
    · apply List.ext_getElem
      · simp
      · intro i h1 h2
        simp at h1 h2
        simp [Nat.mod_eq_of_lt h2, h2]
    · apply List.map_congr_left
      intro i hi
      simp

theorem Reps.replicate {I : Nat → Nat → Prop} {w : World} {x : AV} {cs : List Value} (h : Rep I w x cs) : ∀ n : Nat, Reps I w (List.replicate n x) (List.replicate n cs).flatten
  | 0 => by simp [Reps]
  | n + 1 => by
    simp only [List.replicate_succ, List.flatten_cons, Reps]
    exact ⟨cs, _, rfl, h, Reps.replicate h n⟩

def sizesAre (s : Nat) (l : List AV) : Prop := ∀ x ∈ l, x.size = s

theorem sizesAre_nil (s : Nat) : sizesAre s [] = True := by simp [sizesAre]
theorem sizesAre_cons (s : Nat) (x : AV) (l : List AV) : sizesAre s (x :: l) = (x.size = s ∧ sizesAre s l) := by simp [sizesAre]
theorem sizesAre_map {α : Type} (s : Nat) (f : α → AV) (l : List α) (h : ∀ x, (f x).size = s) : sizesAre s (l.map f) = True := by
  simp only [eq_iff_iff, iff_true]
  intro x hx
  obtain ⟨y, _, rfl⟩ := List.mem_map.1 hx
  exact h y

def aBuildSlice (P : Program) (t : TypeId) (n : Nat) (parts : List (Nat × AV)) (H : Heap) (K : AV → Heap → Prop) : Prop :=
  match elemT P t with
  | some (e, s, _) => match zeroA P e with
    | some z => 0 < s ∧ n * s ≤ 16777216 ∧ partsOk (fun i => some (i * s, s)) (List.replicate n z) parts = true ∧ sizesAre s (setParts (List.replicate n z) parts) ∧
        ∀ b, H b = none → K (.slr b s 0 n) (H.upd b (.arr s (setParts (List.replicate n z) parts)))
    | none => False
  | none => False

theorem length_setParts : ∀ (l : List AV) (parts : List (Nat × AV)), (setParts l parts).length = l.length
  | l, [] => rfl
  | l, (i, x) :: r => by simp [setParts, length_setParts]

theorem rep_slr_new {I : Nat → Nat → Prop} {w : World} {b s n cap N : Nat} {T : TypeId} (hsh : w.shape? b = some (T, N)) (hc : cap * s = N) (hn : n ≤ cap) : RepT I w (.slr b s 0 n) (.slice (some ⟨b, 0, none⟩) n cap) := by
  simp only [RepT, RepV, Rep]
  exact ⟨0, cap, by simp, Nat.zero_le _, by omega, .inl (by simp), T, N, hsh, by simpa using hc⟩

theorem aBuildSlice_ok {P : Program} {t : TypeId} {n : Nat} {parts : List (Nat × AV)} {ps : Array (Nat × Value)} {I : Nat → Nat → Prop} {w : World} {H : Heap} {K : AV → Heap → Prop} (h : aBuildSlice P t n parts H K)
    (hp : PartsRep I w parts ps.toList) (hR : Rel I w H) : SemOk P (Instr.buildSlice t n ps) I w H K := by
  unfold aBuildSlice at h
  split at h <;> try exact h.elim
  rename_i e s nb he
  split at h <;> try exact h.elim
  rename_i z hz
  obtain ⟨hs, hmax, ho, hsz, hk⟩ := h
  obtain ⟨i, zv, h1, h2, h3, h4, _⟩ := zeroA_spec hz
  obtain ⟨i', g1, g2, g3, g4⟩ := elemT_spec he
  have hii : i' = i := by rw [h1] at g2; exact (Option.some.inj g2).symm
  subst hii
  have hzs : zv.cells.size = s := by rw [← Array.length_toList, Rep.length _ _ (h3 I w), ← h4, g3]
  have hcells : (((Array.range (n * s)).map (zv.cells[· % zv.cells.size]!))).toList = (List.replicate n zv.cells.toList).flatten := by
    rw [← range_cells, hzs]; simp
  obtain ⟨cs', e1, e2⟩ := fill_ok (cs := (Array.range (n * s)).map (zv.cells[· % zv.cells.size]!)) hp ho (by rw [hcells]; exact Reps.replicate (h3 I w) n)
  have hnew := new_arr (T := e) (s := s) (cs := cs') (c2 := []) hR hsz (by simp) e2
  have hsize : cs'.size = n * s := by
    rw [← Array.length_toList, Reps.length _ _ e2, sizes_uniform _ s hsz, length_setParts]; simp
  refine ⟨.slice (some ⟨w.heap.size, 0, none⟩) n n, w.alloc (.cells cs' e), ?_, .slr w.heap.size s 0 n, I, _, rep_slr_new (shape_alloc_new w cs' e) hsize.symm (Nat.le_refl _), hk _ hR.fresh, hnew.1, hnew.2⟩
  have hnot : ¬ n * i'.size > 16777216 := by rw [g3]; omega
  unfold Instr.buildSlice
  simp only [Sem.run_bind, run_underlying g1, Result.andThen_ok, run_sizeOf' g2, g3]
  rw [Sem.run_ite, if_neg (by simpa [g3] using hnot)]
  by_cases hns : n * s = 0
  · have hn0 : n = 0 := by rcases Nat.mul_eq_zero.1 hns with h | h <;> omega
    subst hn0
    have hempty : (Array.range (0 * s)).map (zv.cells[· % zv.cells.size]!) = #[] := by simp
    rw [hempty] at e1
    have h0 : Array.range 0 = #[] := rfl
    simp [h0, e1, newRow]
  · rw [if_neg hns]
    simp [zeroValue, typeInfo, h1, h2, e1, newRow]

/-! ### what a slice holds -/
def listOf (H : Heap) : AV → Option (List AV)
  | .sl l => some l
  | .slr b s i j => match H b with
    | some (.arr s' l) => if s' = s ∧ j ≤ l.length then some ((l.drop i).take (j - i)) else none
    | _ => none
  | .v (.slice none 0 _) => some []
  | _ => none

theorem listOf_ok {P : Program} {I : Nat → Nat → Prop} {w : World} {H : Heap} {x : AV} {y : Value} {l : List AV} {s : Nat} (h : listOf H x = some l) (hy : RepT I w x y) (hR : Rel I w H) (hs : sizesAre s l) :
    ∃ news : List Value, Reps I w l news ∧ news.length = l.length * s ∧ (∀ w', (Builtin.lenOf y).run P w' = .ok l.length w') ∧
      ∀ w', (∀ b o, w'.cell? ⟨b, o, none⟩ = w.cell? ⟨b, o, none⟩) → (Builtin.firstCells s l.length y).run P w' = .ok news.toArray w' := by
  unfold listOf at h
  split at h <;> try (cases h; done)
  · rename_i l'
    cases h
    simp only [RepT, RepV, Rep] at hy
    obtain ⟨a, cap, cells, h1, h2, _, _, h4⟩ := hy
    simp only [List.cons.injEq, and_true] at h1
    subst h1
    have hlen : cells.length = l.length * s := by rw [Reps.length _ _ h2, sizes_uniform _ s hs]
    refine ⟨cells, h2, hlen, fun w' => by simp [Builtin.lenOf], fun w' hw' => ?_⟩
    rcases h4 with h4 | ⟨b, o, rfl, h6⟩
    · subst h4
      simp only [Reps] at h2
      subst h2
      cases a <;> simp [Builtin.firstCells, loadCells, loadCellsFrom]
    · refine run_firstCells_some w' s l.length ⟨b, o, none⟩ _ cap cells hlen fun j v hv => ?_
      have hj : j < cells.length := by
        rcases Nat.lt_or_ge j cells.length with h' | h'
        · exact h'
        · simp [List.getElem?_eq_none h'] at hv
      rw [add_none, hw', (h6 j hj).2, hv]
  · rename_i b s' i j
    split at h <;> try (cases h; done)
    rename_i s'' l' hb
    split at h <;> try (cases h; done)
    rename_i hc
    obtain ⟨hss, hj⟩ := hc
    subst hss
    cases h
    simp only [RepT, RepV, Rep] at hy
    obtain ⟨off, cap, h1, h2, h3, h4, T, n, h5, h6⟩ := hy
    simp only [List.cons.injEq, and_true] at h1
    subst h1
    have hres := hR.res b _ hb
    simp only [ResOk] at hres
    obtain ⟨_, cs, T', c1, c2, g1, g2, g3, g4⟩ := hres
    have hll : ((l'.drop i).take (j - i)).length = j - i := by simp; omega
    have el : l' = l'.take i ++ ((l'.drop i).take (j - i) ++ (l'.drop i).drop (j - i)) := by rw [List.take_append_drop, List.take_append_drop]
    rw [el] at g4
    obtain ⟨d1, d2, f1, f2, f3⟩ := Reps.split g4
    obtain ⟨e1, e2, k1, k2, k3⟩ := Reps.split f3
    have hs' : ∀ x ∈ (l'.drop i).take (j - i), x.size = s'' := fun x hx => g2 x (List.mem_of_mem_drop (List.mem_of_mem_take hx))
    have hd1 : d1.length = i * s'' := by
      rw [Reps.length _ _ f2, sizes_uniform _ s'' (fun x hx => g2 x (List.mem_of_mem_take hx))]
      simp [Nat.min_eq_left (show i ≤ l'.length by omega)]
    have he1 : e1.length = ((l'.drop i).take (j - i)).length * s := by rw [Reps.length _ _ k2, sizes_uniform _ s hs]
    have he1' : e1.length = ((l'.drop i).take (j - i)).length * s'' := by rw [Reps.length _ _ k2, sizes_uniform _ s'' hs']
    refine ⟨e1, k2, he1, fun w' => by rw [hll]; simp [Builtin.lenOf], fun w' hw' => ?_⟩
    refine run_firstCells_some w' s _ ⟨b, off, none⟩ _ cap e1 he1 fun q v hv => ?_
    have hq : q < e1.length := by
      rcases Nat.lt_or_ge q e1.length with h' | h'
      · exact h'
      · simp [List.getElem?_eq_none h'] at hv
    have hoff : off = i * s'' := by
      rcases h4 with h4 | h4
      · exact h4
      · rw [he1', hll] at hq
        have : j - i = 0 := by omega
        simp [this] at hq
    rw [add_none, hw', World.cell?, g1]
    simp only [Option.isSome_none, Bool.false_eq_true, if_false]
    rw [← Array.getElem?_toList, g3, f1, k1, ← hv]
    rw [List.getElem?_append_left (by simp; omega), List.getElem?_append_right (by omega), List.getElem?_append_left (by omega)]
    congr 1; omega
  · rename_i c
    cases h
    simp only [RepT, RepV] at hy
    subst hy
    exact ⟨[], by simp [Reps], by simp, fun w' => by simp [Builtin.lenOf], fun w' _ => by simp [Builtin.firstCells]⟩

end Go.Flow
