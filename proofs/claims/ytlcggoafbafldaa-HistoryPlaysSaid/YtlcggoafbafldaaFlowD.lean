/-
  Loads, stores and new blocks, against abstract values. No condition.
-/
import Derived.Test.YtlcggoafbafldaaFlowC
set_option linter.unusedSectionVars false
set_option linter.unusedVariables false
namespace Go.Flow
open Go

theorem cell_eq_of_heap {w w' : World} {b : Nat} (h : w'.heap[b]? = w.heap[b]?) (o : Nat) : w'.cell? ⟨b, o, none⟩ = w.cell? ⟨b, o, none⟩ := by
  simp [World.cell?, h]
theorem shape_eq_of_heap {w w' : World} {b : Nat} (h : w'.heap[b]? = w.heap[b]?) : w'.shape? b = w.shape? b := by
  simp [World.shape?, h]

theorem shape_lt {w : World} {b : Nat} {s : TypeId × Nat} (h : w.shape? b = some s) : b < w.heap.size := by
  rcases Nat.lt_or_ge b w.heap.size with h' | h'
  · exact h'
  · simp [World.shape?, Array.getElem?_eq_none h'] at h

theorem ResOk.blk {I : Nat → Nat → Prop} {w : World} {b : Nat} {r : Res} (h : ResOk I w b r) : b < w.heap.size ∧ ∀ o, ¬ I b o := by
  induction r <;> simp only [ResOk] at h
  case ty T r ih => exact ih h.1
  case box x =>
    obtain ⟨hn, cs, T, h1, _⟩ := h
    refine ⟨?_, hn⟩
    rcases Nat.lt_or_ge b w.heap.size with h' | h'
    · exact h'
    · simp [Array.getElem?_eq_none h'] at h1
  case arr s l =>
    obtain ⟨hn, cs, T, c1, c2, h1, _⟩ := h
    refine ⟨?_, hn⟩
    rcases Nat.lt_or_ge b w.heap.size with h' | h'
    · exact h'
    · simp [Array.getElem?_eq_none h'] at h1
  case map es =>
    obtain ⟨hn, a, n, h1, _⟩ := h
    refine ⟨?_, hn⟩
    rcases Nat.lt_or_ge b w.heap.size with h' | h'
    · exact h'
    · simp [Array.getElem?_eq_none h'] at h1

/-- a resource whose block has not been touched -/
theorem ResOk.lasts {I I' : Nat → Nat → Prop} {w w' : World} {b : Nat} {r : Res} (h : ResOk I w b r) (hl : Lasts I w I' w') (hh : w'.heap[b]? = w.heap[b]?) (hn : ∀ o, ¬ I' b o) : ResOk I' w' b r := by
  induction r <;> simp only [ResOk] at h ⊢
  case ty T r ih =>
    obtain ⟨h1, n, h2⟩ := h
    exact ⟨ih h1, n, hl.shape _ _ h2⟩
  case box x =>
    obtain ⟨_, cs, T, h1, h2⟩ := h
    exact ⟨hn, cs, T, hh.trans h1, Rep.lasts hl _ _ h2⟩
  case arr s l =>
    obtain ⟨_, cs, T, c1, c2, h1, h2, h3, h4⟩ := h
    exact ⟨hn, cs, T, c1, c2, hh.trans h1, h2, h3, Reps.lasts hl _ _ h4⟩
  case map es =>
    obtain ⟨_, a, n, h1, h2⟩ := h
    exact ⟨hn, a, n, hh.trans h1, MapOk.lasts hl h2⟩

theorem Heap.upd_same (H : Heap) (b : Nat) (r : Res) : (H.upd b r) b = some r := by simp [Heap.upd]
theorem Heap.upd_other (H : Heap) {b c : Nat} (r : Res) (h : c ≠ b) : (H.upd b r) c = H c := by simp [Heap.upd, h]
theorem Heap.erase_same (H : Heap) (b : Nat) : (H.erase b) b = none := by simp [Heap.erase]
theorem Heap.erase_other (H : Heap) {b c : Nat} (h : c ≠ b) : (H.erase b) c = H c := by simp [Heap.erase, h]

/-- the world differs in one block, a resource's -/
structure One (w : World) (b : Nat) (w' : World) : Prop where
  other : ∀ c, c ≠ b → w'.heap[c]? = w.heap[c]?
  shape : w'.shape? b = w.shape? b
  size : w'.heap.size = w.heap.size
  tape : w'.tape = w.tape
  os : w'.os = w.os
  output : w'.output = w.output

theorem One.lasts {I : Nat → Nat → Prop} {w w' : World} {b : Nat} (h : One w b w') (hn : ∀ o, ¬ I b o) : Lasts I w I w' :=
  ⟨fun c o hI => ⟨hI, cell_eq_of_heap (h.other c (fun e => hn o (e ▸ hI))) o⟩, fun c s hs => by
    by_cases hc : c = b
    · subst hc; rw [h.shape]; exact hs
    · rw [shape_eq_of_heap (h.other c hc)]; exact hs⟩

theorem One.ext {I : Nat → Nat → Prop} {w w' : World} {H : Heap} {b : Nat} {r r' : Res} (h : One w b w') (hn : ∀ o, ¬ I b o) (hb : H b = some r) : Ext I w H I w' (H.upd b r') where
  keep := (h.lasts hn).keep
  shape := (h.lasts hn).shape
  size := Nat.le_of_eq h.size.symm
  frame c hc hH := by
    have hne : c ≠ b := fun e => by rw [e, hb] at hH; cases hH
    exact ⟨h.other c hne, by rw [Heap.upd_other _ _ hne]; exact hH, fun _ hI => hI⟩
  tape := h.tape
  os := h.os
  output := h.output

theorem One.rel {I : Nat → Nat → Prop} {w w' : World} {H : Heap} {b : Nat} {r' : Res} (h : One w b w') (hn : ∀ o, ¬ I b o) (hR : Rel I w H) (hr : ResOk I w' b r') : Rel I w' (H.upd b r') where
  res c r hc := by
    by_cases e : c = b
    · subst e
      rw [Heap.upd_same] at hc
      cases hc
      exact hr
    · rw [Heap.upd_other _ _ e] at hc
      exact (hR.res c r hc).lasts (h.lasts hn) (h.other c e) (hR.res c r hc).blk.2
  lt c o hI := by rw [h.size]; exact hR.lt c o hI


theorem alloc_old (w : World) (o : Obj) {b : Nat} (h : b < w.heap.size) : (w.alloc o).heap[b]? = w.heap[b]? := by
  show (w.heap.push o)[b]? = w.heap[b]?
  rw [Array.getElem?_push, if_neg (Nat.ne_of_lt h)]

theorem alloc_lasts {I : Nat → Nat → Prop} {w : World} {H : Heap} (hR : Rel I w H) (o : Obj) : Lasts I w I (w.alloc o) :=
  ⟨fun b i hI => ⟨hI, World.cell?_alloc_lt w o _ (hR.lt b i hI)⟩, fun b s hs => by
    rw [shape_eq_of_heap (alloc_old w o (shape_lt hs))]; exact hs⟩

/-- the world has one block more, a resource of ours -/
theorem alloc_ext {I : Nat → Nat → Prop} {w : World} {H : Heap} (hR : Rel I w H) (o : Obj) (r : Res) : Ext I w H I (w.alloc o) (H.upd w.heap.size r) where
  keep := (alloc_lasts hR o).keep
  shape := (alloc_lasts hR o).shape
  size := by simp
  frame b hb hH := ⟨alloc_old w o hb, by rw [Heap.upd_other _ _ (Nat.ne_of_lt hb)]; exact hH, fun _ h => h⟩
  tape := rfl
  os := rfl
  output := rfl

theorem alloc_rel {I : Nat → Nat → Prop} {w : World} {H : Heap} (hR : Rel I w H) (o : Obj) (r : Res) (hr : ResOk I (w.alloc o) w.heap.size r) : Rel I (w.alloc o) (H.upd w.heap.size r) where
  res c q hc := by
    by_cases e : c = w.heap.size
    · subst e; rw [Heap.upd_same] at hc; cases hc; exact hr
    · rw [Heap.upd_other _ _ e] at hc
      have hq := hR.res c q hc
      exact hq.lasts (alloc_lasts hR o) (alloc_old w o hq.blk.1) hq.blk.2
  lt c i hI := by have := hR.lt c i hI; simp; omega

theorem Rel.fresh {I : Nat → Nat → Prop} {w : World} {H : Heap} (hR : Rel I w H) : H w.heap.size = none := by
  cases h : H w.heap.size with
  | none => rfl
  | some r => have := (hR.res _ r h).blk.1; omega

theorem Rel.fresh' {I : Nat → Nat → Prop} {w : World} {H : Heap} (hR : Rel I w H) (o : Nat) : ¬ I w.heap.size o := fun h => by
  have := hR.lt _ _ h; omega

/-- a new variable -/
theorem new_box {I : Nat → Nat → Prop} {w : World} {H : Heap} {x : AV} {cs : Array Value} {T : TypeId} (hR : Rel I w H) (hx : Rep I w x cs.toList) :
    Rel I (w.alloc (.cells cs T)) (H.upd w.heap.size (.box x)) ∧ Ext I w H I (w.alloc (.cells cs T)) (H.upd w.heap.size (.box x)) := by
  refine ⟨alloc_rel hR _ _ ?_, alloc_ext hR _ _⟩
  simp only [ResOk]
  exact ⟨hR.fresh', cs, T, by show (w.heap.push _)[w.heap.size]? = _; simp, Rep.lasts (alloc_lasts hR _) _ _ hx⟩

/-- a new row -/
theorem new_arr {I : Nat → Nat → Prop} {w : World} {H : Heap} {l : List AV} {s : Nat} {cs : Array Value} {T : TypeId} {c1 c2 : List Value} (hR : Rel I w H) (hs : ∀ x ∈ l, x.size = s) (hc : cs.toList = c1 ++ c2) (hx : Reps I w l c1) :
    Rel I (w.alloc (.cells cs T)) (H.upd w.heap.size (.arr s l)) ∧ Ext I w H I (w.alloc (.cells cs T)) (H.upd w.heap.size (.arr s l)) := by
  refine ⟨alloc_rel hR _ _ ?_, alloc_ext hR _ _⟩
  simp only [ResOk]
  exact ⟨hR.fresh', cs, T, c1, c2, by show (w.heap.push _)[w.heap.size]? = _; simp, hs, hc, Reps.lasts (alloc_lasts hR _) _ _ hx⟩

theorem shape_alloc_new (w : World) (cs : Array Value) (T : TypeId) : (w.alloc (.cells cs T)).shape? w.heap.size = some (T, cs.size) := by
  have : (w.alloc (.cells cs T)).heap[w.heap.size]? = some (.cells cs T (0, 0)) := by show (w.heap.push _)[w.heap.size]? = _; simp
  unfold World.shape?
  rw [this]

/-! ### loads -/
def aLoad (P : Program) (t : TypeId) (x : AV) (H : Heap) (K : AV → Heap → Prop) : Prop :=
  match x with
  | .ip y => y.fits P t = true ∧ K y H
  | .bp b off p => match H b with
    | some r => match r.at p with
      | some (o, y) => o = off ∧ y.fits P t = true ∧ K y H
      | none => False
    | none => False
  | _ => False

theorem aLoad_ok {P : Program} {t : TypeId} {x : AV} {a : Value} {I : Nat → Nat → Prop} {w : World} {H : Heap} {K : AV → Heap → Prop} (h : aLoad P t x H K) (ha : RepT I w x a) (hR : Rel I w H) :
    SemOk P (Instr.loadAt t a) I w H K := by
  unfold aLoad at h
  split at h
  · rename_i y
    obtain ⟨hf, hk⟩ := h
    simp only [RepT, RepV, Rep] at ha
    obtain ⟨b, o, cells, h1, h2, h3⟩ := ha
    obtain ⟨z, hz, hv⟩ := run_loadVar' hf h2 (fun i hi => (h3 i hi).2)
    cases h1
    exact .same (by simp [Instr.loadAt, Instr.sureAddr, hz]) (.of_V hv) hk hR
  · rename_i b off p
    split at h <;> try exact h.elim
    rename_i r hr
    split at h <;> try exact h.elim
    rename_i o y hat
    obtain ⟨ho, hf, hk⟩ := h
    subst ho
    simp only [RepT, RepV, Rep] at ha
    obtain ⟨cs, T, c1, c, c2, g1, g2, g3, g4, _⟩ := (hR.res b r hr).at hat
    obtain ⟨z, hz, hv⟩ := run_loadVar' (b := b) (o := o) hf g4 (fun i hi => by
      rw [World.cell?, g1]
      simp only [Option.isSome_none, Bool.false_eq_true, if_false]
      rw [← Array.getElem?_toList, g2, List.getElem?_append_right (by omega), List.getElem?_append_left (by omega)]
      congr 1; omega)
    cases ha
    exact .same (by simp [Instr.loadAt, Instr.sureAddr, hz]) (.of_V hv) hk hR
  · exact h.elim

/-! ### stores -/
def aStore (P : Program) (t : TypeId) (x v : AV) (H : Heap) (K : AV → Heap → Prop) : Prop :=
  match x with
  | .bp b off p => match H b with
    | some r => match r.at p with
      | some (o, y) => o = off ∧ v.solid = true ∧ v.size = y.size ∧ flatT P t = some (y.isAgg, y.size) ∧ K .any (H.upd b (r.put p v))
      | none => False
    | none => False
  | _ => False

theorem One.setRow {w : World} {b : Nat} {cs cs' : Array Value} {T : TypeId} (h : w.heap[b]? = some (.cells cs T (0, 0))) (hs : cs'.size = cs.size) : One w b (w.setRow b cs') where
  other c hc := setRow_other w b c cs' hc
  shape := by
    have := setRow_heap w b cs cs' T (0, 0) h
    simp [World.shape?, this, h, hs]
  size := by simp
  tape := rfl
  os := rfl
  output := rfl

theorem flatT_info {P : Program} {t : TypeId} {a : Bool} {n : Nat} (h : flatT P t = some (a, n)) : ∃ i, P.info? t = some i ∧ i.size = n := by
  unfold flatT at h
  cases h1 : P.info? t <;> cases h2 : P.underlying t <;> simp_all

theorem RepT.V {I : Nat → Nat → Prop} {w : World} {x : AV} {y : Value} (hs : x.solid = true) (h : RepT I w x y) : RepV I w x y := by
  cases x <;> first | exact h | (simp [AV.solid] at hs)

theorem aStore_ok {P : Program} {t : TypeId} {x v : AV} {a y : Value} {I : Nat → Nat → Prop} {w : World} {H : Heap} {K : AV → Heap → Prop} (h : aStore P t x v H K) (ha : RepT I w x a) (hy : RepT I w v y) (hR : Rel I w H) :
    ∃ w', (Instr.storeAt t a y).run P w = .ok () w' ∧ ∃ I' H', K .any H' ∧ Rel I' w' H' ∧ Ext I w H I' w' H' := by
  unfold aStore at h
  split at h
  · rename_i b off p
    split at h <;> try exact h.elim
    rename_i r hr
    split at h <;> try exact h.elim
    rename_i o z hat
    obtain ⟨ho, hsol, hsz, hfl, hk⟩ := h
    subst ho
    simp only [RepT, RepV, Rep] at ha
    cases ha
    obtain ⟨cs, T, c1, c, c2, g1, g2, g3, g4, g5, g6⟩ := (hR.res b r hr).at hat
    have hv := RepV.cells hsol (RepT.V hsol hy)
    have hlen := Rep.length _ _ hv
    have hlenc := Rep.length _ _ g4
    obtain ⟨i, hi, his⟩ := flatT_info hfl
    have hcs : cs.size = c1.length + (c.length + c2.length) := by rw [← Array.length_toList, g2]; simp
    have hst := run_storeCells_at P b o T y.cells.toList 0 cs w g1 (by rw [hlen, hsz, ← hlenc]; omega) (Rep.one _ _ hv)
    have e : (cs.toList.take (o + 0) ++ y.cells.toList ++ cs.toList.drop (o + 0 + y.cells.toList.length)) = c1 ++ (y.cells.toList ++ c2) := by
      rw [g2, ← g3]
      simp only [Nat.add_zero, List.take_left, List.append_assoc]
      congr 2
      rw [hlen, hsz, ← hlenc, ← List.append_assoc, List.drop_append_of_le_length (by simp), List.drop_eq_nil_of_le (by simp)]
      simp
    rw [e] at hst
    refine ⟨w.setRow b (c1 ++ (y.cells.toList ++ c2)).toArray, ?_, I, _, hk, ?_⟩
    · simp only [Instr.storeAt, Instr.sureAddr, Sem.run_bind, Sem.run_pure, Result.andThen_ok, storeVar, run_sizeOf' hi]
      have : ¬ y.cells.size ≠ i.size := by rw [← Array.length_toList, hlen, hsz, his]; simp
      rw [Sem.run_ite, if_neg this]
      exact hst
    · have hone : One w b (w.setRow b (c1 ++ (y.cells.toList ++ c2)).toArray) := One.setRow g1 (by simp; rw [hcs, hlenc, ← hsz, ← hlen]; simp)
      exact ⟨hone.rel g5 hR (g6 _ v _ hsz hv (hone.lasts g5) (setRow_heap w b cs _ T (0, 0) g1)), hone.ext g5 hr⟩
  · exact h.elim

/-! ### new variables -/
/-- equality of plain values -/
def sameV : Value → Value → Bool
  | .bool a, .bool b => a == b
  | .int k a, .int j b => k == j && a == b
  | .string a, .string b => decide (a = b)
  | .pointer none, .pointer none => true
  | .slice none 0 0, .slice none 0 0 => true
  | .map none, .map none => true
  | .nilFunc, .nilFunc => true
  | .nilIface, .nilIface => true
  | _, _ => false

theorem sameV_eq {a b : Value} (h : sameV a b = true) : a = b := by
  unfold sameV at h
  split at h <;> simp_all

def sameVs : List Value → List Value → Bool
  | [], [] => true
  | a :: r, b :: q => sameV a b && sameVs r q
  | _, _ => false

theorem sameVs_eq : ∀ {a b : List Value}, sameVs a b = true → a = b
  | [], [], _ => rfl
  | a :: r, b :: q, h => by
    simp only [sameVs, Bool.and_eq_true] at h
    rw [sameV_eq h.1, sameVs_eq h.2]
  | [], _ :: _, h => by simp [sameVs] at h
  | _ :: _, [], h => by simp [sameVs] at h

mutual
/-- a plain abstract value's cells -/
def AV.flat : AV → Option (List Value)
  | .v x => if x.oneCell' then some [x] else none
  | .agg l => AV.flats l
  | _ => none
def AV.flats : List AV → Option (List Value)
  | [] => some []
  | x :: r => match x.flat, AV.flats r with
    | some a, some b => some (a ++ b)
    | _, _ => none
end

mutual
theorem AV.flat_rep {I : Nat → Nat → Prop} {w : World} : ∀ (x : AV) (cs : List Value), x.flat = some cs → Rep I w x cs
  | .v x, cs, h => by
    simp only [AV.flat] at h
    split at h
    · rename_i h1; cases h; simp [Rep, h1]
    · cases h
  | .agg l, cs, h => by simp only [AV.flat] at h; simp only [Rep]; exact AV.flats_rep l cs h
  | .any, _, h => by simp [AV.flat] at h
  | .tup _, _, h => by simp [AV.flat] at h
  | .sl _, _, h => by simp [AV.flat] at h
  | .ip _, _, h => by simp [AV.flat] at h
  | .bp _ _ _, _, h => by simp [AV.flat] at h
  | .slr _ _ _ _, _, h => by simp [AV.flat] at h
  | .fn _ _ _, _, h => by simp [AV.flat] at h
  | .mp _, _, h => by simp [AV.flat] at h
theorem AV.flats_rep {I : Nat → Nat → Prop} {w : World} : ∀ (l : List AV) (cs : List Value), AV.flats l = some cs → Reps I w l cs
  | [], cs, h => by simp only [AV.flats] at h; cases h; simp [Reps]
  | x :: r, cs, h => by
    simp only [AV.flats] at h
    split at h
    · rename_i a b h1 h2
      cases h
      simp only [Reps]
      exact ⟨a, b, rfl, AV.flat_rep x a h1, AV.flats_rep r b h2⟩
    · cases h
end

/-- a type's zero value, part by part -/
def zeroS (P : Program) : Nat → TypeId → Option AV
  | 0, _ => none
  | n + 1, t => match P.underlying t with
    | some (.struct fs) => (fs.toList.mapM fun f => zeroS P n f.type).map .agg
    | _ => match P.info? t with
      | some i => match i.zero with
        | some (.agg _) => none
        | some z => some (.v z)
        | none => none
      | none => none

def zAgg (z : Value) (x : AV) : Bool := match z with | .agg _ => x.isAgg | _ => !x.isAgg

/-- the same, held against the model's own -/
def zeroA (P : Program) (t : TypeId) : Option AV :=
  match zeroS P 8 t, P.info? t with
  | some x, some i => match x.flat, i.zero with
    | some cs, some z => if sameVs cs z.cells.toList && (i.size == cs.length) && zAgg z x then some x else none
    | _, _ => none
  | _, _ => none

theorem zeroA_spec {P : Program} {t : TypeId} {x : AV} (h : zeroA P t = some x) : ∃ i z, P.info? t = some i ∧ i.zero = some z ∧ (∀ I w, Rep I w x z.cells.toList) ∧ i.size = x.size ∧ (∀ I w, RepV I w x z) := by
  unfold zeroA at h
  cases h1 : zeroS P 8 t with
  | none => simp [h1] at h
  | some y =>
    cases h2 : P.info? t with
    | none => simp [h1, h2] at h
    | some i =>
      cases h3 : y.flat with
      | none => simp [h1, h2, h3] at h
      | some cs =>
        cases h4 : i.zero with
        | none => simp [h1, h2, h3, h4] at h
        | some z =>
          simp only [h1, h2, h3, h4] at h
          split at h
          · rename_i hc
            cases h
            simp only [Bool.and_eq_true, beq_iff_eq] at hc
            obtain ⟨⟨hc1, hc2⟩, hc3⟩ := hc
            have e := sameVs_eq hc1
            have hrep : ∀ I w, Rep I w x z.cells.toList := fun I w => e ▸ AV.flat_rep x cs h3
            refine ⟨i, z, rfl, h4, hrep, ?_, fun I w => ?_⟩
            · rw [hc2, e]; exact Rep.length _ _ (hrep (fun _ _ => False) default)
            · cases x with
              | agg l =>
                cases z <;> simp [zAgg, AV.isAgg] at hc3
                rename_i cells
                have := hrep I w
                simp only [Value.cells, Rep] at this
                exact ⟨cells.toList, by simp, this⟩
              | v q =>
                have := hrep I w
                simp only [Rep] at this
                cases z <;> simp [zAgg, AV.isAgg, Value.cells] at hc3 this <;> simp [RepV, this]
              | _ => simp [AV.flat] at h3
          · cases h

def aAlloc (P : Program) (t : TypeId) (H : Heap) (K : AV → Heap → Prop) : Prop :=
  match zeroA P t with
  | some x => ∀ b, H b = none → K (.bp b 0 []) (H.upd b (.box x))
  | none => False

theorem aAlloc_ok {P : Program} {t : TypeId} {I : Nat → Nat → Prop} {w : World} {H : Heap} {K : AV → Heap → Prop} (h : aAlloc P t H K) (hR : Rel I w H) : SemOk P (Instr.alloc t true (.tuple #[])) I w H K := by
  unfold aAlloc at h
  split at h
  · rename_i x hx
    obtain ⟨i, z, h1, h2, h3, _⟩ := zeroA_spec hx
    have := new_box (T := t) (cs := z.cells) hR (h3 I w)
    exact ⟨.pointer (some ⟨w.heap.size, 0, none⟩), w.alloc (.cells z.cells t), by simp [Instr.alloc, zeroValue, typeInfo, h1, h2, newVar, newRow],
      .bp w.heap.size 0 [], I, _, by simp [RepT, RepV, Rep], h _ hR.fresh, this.1, this.2⟩
  · exact h.elim

def aBox (x : AV) (H : Heap) (K : AV → Heap → Prop) : Prop :=
  x.solid = true ∧ ∀ b, H b = none → K (.bp b 0 []) (H.upd b (.box x))

theorem aBox_ok {P : Program} {t : TypeId} {x : AV} {y : Value} {I : Nat → Nat → Prop} {w : World} {H : Heap} {K : AV → Heap → Prop} (h : aBox x H K) (hy : RepT I w x y) (hR : Rel I w H) : SemOk P (Instr.box t y) I w H K := by
  obtain ⟨hs, h⟩ := h
  have := new_box (T := t) (cs := y.cells) hR (RepV.cells hs (RepT.V hs hy))
  exact ⟨.pointer (some ⟨w.heap.size, 0, none⟩), w.alloc (.cells y.cells t), by simp [Instr.box, newVar, newRow],
    .bp w.heap.size 0 [], I, _, by simp [RepT, RepV, Rep], h _ hR.fresh, this.1, this.2⟩

/-! ### addresses -/
def aField (P : Program) (t : TypeId) (x : AV) (k : Nat) (H : Heap) (K : AV → Heap → Prop) : Prop :=
  match offT P t k with
  | some o => match x with
    | .ip (.agg l) => match l[k]? with
      | some y => AV.sizes (l.take k) = o ∧ K (.ip y) H
      | none => False
    | .bp b off p => K (.bp b (off + o) (p ++ [k])) H
    | _ => False
  | none => False

theorem offT_spec {P : Program} {t : TypeId} {k o : Nat} (h : offT P t k = some o) : ∃ fs f i, P.underlying t = some (.struct fs) ∧ fs[k]? = some f ∧ P.info? f.type = some i ∧ i.size ≠ 0 ∧ f.offset = o := by
  unfold offT at h
  split at h <;> try cases h
  rename_i fs hu
  split at h <;> try cases h
  rename_i f hf
  split at h <;> try cases h
  rename_i i hi
  split at h <;> try cases h
  rename_i hz
  exact ⟨fs, f, i, hu, hf, hi, hz, rfl⟩

theorem run_fieldAt' {P : Program} {t : TypeId} {k o b off : Nat} (h : offT P t k = some o) (w : World) : (Instr.fieldAt t (.pointer (some ⟨b, off, none⟩)) k).run P w = .ok (.pointer (some ⟨b, off + o, none⟩)) w := by
  obtain ⟨fs, f, i, h1, h2, h3, h4, h5⟩ := offT_spec h
  simp [Instr.fieldAt, run_underlying h1, h2, Instr.sureAddr, fieldPlace, run_sizeOf' h3, h4, h5, add_none]

theorem aField_ok {P : Program} {t : TypeId} {x : AV} {a : Value} {k : Nat} {I : Nat → Nat → Prop} {w : World} {H : Heap} {K : AV → Heap → Prop} (h : aField P t x k H K) (ha : RepT I w x a) (hR : Rel I w H) :
    SemOk P (Instr.fieldAt t a k) I w H K := by
  unfold aField at h
  split at h
  · rename_i o ho
    split at h
    · rename_i l
      split at h
      · rename_i y hy
        obtain ⟨hs, hk⟩ := h
        simp only [RepT, RepV, Rep] at ha
        obtain ⟨b, off, cells, h1, h2, h3⟩ := ha
        obtain ⟨c1, c, c2, g1, g2, g3⟩ := Reps.get h2 hy
        cases h1
        refine .same (run_fieldAt' ho w) ?_ hk hR
        simp only [RepT, RepV, Rep]
        refine ⟨b, off + o, c, rfl, g3, fun i hi => ?_⟩
        have := h3 (o + i) (by rw [g1]; simp; omega)
        rw [Nat.add_assoc]
        refine ⟨this.1, this.2.trans ?_⟩
        rw [g1, List.getElem?_append_right (by omega), List.getElem?_append_left (by omega)]
        congr 1; omega
      · exact h.elim
    · rename_i b off p
      simp only [RepT, RepV, Rep] at ha
      cases ha
      exact .same (run_fieldAt' ho w) (by simp [RepT, RepV, Rep]) h hR
    · exact h.elim
  · exact h.elim

def aNilCheck (x : AV) (H : Heap) (K : AV → Heap → Prop) : Prop :=
  match x with
  | .ip y => K (.ip y) H
  | .bp b o p => K (.bp b o p) H
  | _ => False

/-- the element at a place of a slice -/
def aIndex (P : Program) (t : TypeId) (x ix : AV) (H : Heap) (K : AV → Heap → Prop) : Prop :=
  match elemT P t with
  | some (_, s, _) => match ix with
    | .v (.int _ n) => match x with
      | .sl l => 0 ≤ n ∧ (match l[n.toNat]? with
        | some y => y.size = s ∧ K (.ip y) H
        | none => False)
      | .slr b s' i j => s' = s ∧ 0 ≤ n ∧ n < ((j - i : Nat) : Int) ∧ K (.bp b ((i + n.toNat) * s) [i + n.toNat]) H
      | _ => False
    | _ => False
  | none => False

theorem elemT_spec {P : Program} {t e : TypeId} {s n : Nat} (h : elemT P t = some (e, s, n)) : ∃ i, P.underlying t = some (.slice e) ∧ P.info? e = some i ∧ i.size = s ∧ i.bytes = n := by
  unfold elemT at h
  split at h <;> try cases h
  rename_i e' hu
  split at h <;> try cases h
  rename_i i hi
  exact ⟨i, hu, hi, rfl, rfl⟩

theorem run_indexAt' {P : Program} {t e : TypeId} {s nb b off len cap : Nat} {k : IntKind} {n : Int} (h : elemT P t = some (e, s, nb)) (w : World) (h0 : 0 ≤ n) (h1 : n < (len : Int)) :
    (Instr.indexAt t (.slice (some ⟨b, off, none⟩) len cap) (.int k n)).run P w = .ok (.pointer (some ⟨b, off + n.toNat * s, none⟩)) w := by
  obtain ⟨i, g1, g2, g3, g4⟩ := elemT_spec h
  simp [Instr.indexAt, asIntOf, run_underlying g1, h0, h1, run_sizeOf' g2, g3, add_none]

theorem aIndex_ok {P : Program} {t : TypeId} {x ix : AV} {a n : Value} {I : Nat → Nat → Prop} {w : World} {H : Heap} {K : AV → Heap → Prop} (h : aIndex P t x ix H K) (ha : RepT I w x a) (hn : RepT I w ix n) (hR : Rel I w H) :
    SemOk P (Instr.indexAt t a n) I w H K := by
  unfold aIndex at h
  split at h <;> try exact h.elim
  rename_i e s nb he
  split at h <;> try exact h.elim
  rename_i k m
  simp only [RepT, RepV] at hn
  subst hn
  split at h <;> try exact h.elim
  · rename_i l
    obtain ⟨h0, h⟩ := h
    split at h <;> try exact h.elim
    rename_i y hy
    obtain ⟨hs, hk⟩ := h
    have hm : m.toNat < l.length := by
      rcases Nat.lt_or_ge m.toNat l.length with h' | h'
      · exact h'
      · simp [List.getElem?_eq_none h'] at hy
    simp only [RepT, RepV, Rep] at ha
    obtain ⟨a', cap, cells, h1, h2, ⟨s', h3⟩, _, h4⟩ := ha
    simp only [List.cons.injEq, and_true] at h1
    subst h1
    have hs' : s' = s := by rw [← hs]; exact (h3 y (List.mem_of_getElem? hy)).symm
    subst hs'
    rcases h4 with h4 | ⟨b, off, h5, h6⟩
    · subst h4; simp at hm
    · subst h5
      refine .same (run_indexAt' he w h0 (by omega)) ?_ hk hR
      obtain ⟨c1, c, c2, g1, g2, g3⟩ := Reps.get h2 hy
      have g2' : c1.length = m.toNat * s' := by
        rw [g2, sizes_uniform _ s' (fun z hz => h3 z (List.mem_of_mem_take hz))]
        simp [Nat.min_eq_left (Nat.le_of_lt hm)]
      simp only [RepT, RepV, Rep]
      refine ⟨b, off + m.toNat * s', c, rfl, g3, fun i hi => ?_⟩
      have := h6 (m.toNat * s' + i) (by rw [g1]; simp; omega)
      rw [Nat.add_assoc]
      refine ⟨this.1, this.2.trans ?_⟩
      rw [g1, List.getElem?_append_right (by omega), List.getElem?_append_left (by omega)]
      congr 1; omega
  · rename_i b s' i j
    obtain ⟨hs, h0, h1, hk⟩ := h
    subst hs
    simp only [RepT, RepV, Rep] at ha
    obtain ⟨off, cap, h2, h3, h4, h5, T, nn, h6, h7⟩ := ha
    simp only [List.cons.injEq, and_true] at h2
    subst h2
    have hoff : off = i * s' := by
      rcases h5 with h5 | h5
      · exact h5
      · omega
    refine .same (run_indexAt' he w h0 h1) ?_ hk hR
    simp [RepT, RepV, Rep, hoff, Nat.add_mul]

end Go.Flow
