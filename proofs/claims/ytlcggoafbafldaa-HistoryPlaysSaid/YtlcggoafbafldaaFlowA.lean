/-
  Abstract values, what they stand for in memory, and how that lasts while memory grows. No condition.
-/
import Derived.WalkKit
import Derived.Orders
import Derived.RowKit3
import Derived.Laws.Rows
import Derived.Laws.Cells
import Derived.Laws.CopyRow
set_option linter.unusedSectionVars false
set_option linter.unnecessarySimpa false
namespace Go.Flow
open Go

inductive AV where
  | any
  | v (x : Value)
  | agg (l : List AV)
  | tup (l : List AV)
  | sl (l : List AV)
  | ip (x : AV)
  | bp (b off : Nat) (path : List Nat)
  | slr (b s i j : Nat)
  | fn (f : Nat) (first caps : List AV)
  | mp (b : Nat)
  deriving Inhabited

mutual
def AV.size : AV → Nat
  | .agg l => AV.sizes l
  | .any => 1 | .v _ => 1 | .tup _ => 1 | .sl _ => 1 | .ip _ => 1 | .bp _ _ _ => 1 | .slr _ _ _ _ => 1 | .fn _ _ _ => 1 | .mp _ => 1
def AV.sizes : List AV → Nat
  | [] => 0
  | x :: r => x.size + AV.sizes r
end

def AV.isAgg : AV → Bool
  | .agg _ => true
  | _ => false

/-- from place o of block b on these cells lie, and they are of those that never change -/
def At (I : Nat → Nat → Prop) (w : World) (b o : Nat) (cs : List Value) : Prop :=
  ∀ i, i < cs.length → I b (o + i) ∧ w.cell? ⟨b, o + i, none⟩ = cs[i]?

mutual
def Rep (I : Nat → Nat → Prop) (w : World) : AV → List Value → Prop
  | .any, cs => ∃ x : Value, cs = [x] ∧ x.oneCell' = true
  | .v x, cs => cs = [x] ∧ x.oneCell' = true
  | .agg l, cs => Reps I w l cs
  | .tup _, _ => False
  | .sl l, cs => ∃ a cap cells, cs = [.slice a l.length cap] ∧ Reps I w l cells ∧ (∃ s, ∀ x ∈ l, x.size = s) ∧ l.length ≤ cap ∧ (l = [] ∨ ∃ b o, a = some ⟨b, o, none⟩ ∧ At I w b o cells)
  | .ip x, cs => ∃ b o cells, cs = [.pointer (some ⟨b, o, none⟩)] ∧ Rep I w x cells ∧ At I w b o cells
  | .bp b off _, cs => cs = [.pointer (some ⟨b, off, none⟩)]
  | .slr b s i j, cs => ∃ off cap, cs = [.slice (some ⟨b, off, none⟩) (j - i) cap] ∧ i ≤ j ∧ j - i ≤ cap ∧ (off = i * s ∨ cap = 0) ∧ ∃ T n, w.shape? b = some (T, n) ∧ (i + cap) * s = n
  | .fn f first caps, cs => ∃ c1 c2, cs = [.func (.func f) c1.toArray c2.toArray] ∧ Rep1 I w first c1 ∧ Rep1 I w caps c2
  | .mp b, cs => cs = [.map (some b)]
def Reps (I : Nat → Nat → Prop) (w : World) : List AV → List Value → Prop
  | [], cs => cs = []
  | x :: r, cs => ∃ c1 c2, cs = c1 ++ c2 ∧ Rep I w x c1 ∧ Reps I w r c2
def Rep1 (I : Nat → Nat → Prop) (w : World) : List AV → List Value → Prop
  | [], cs => cs = []
  | x :: r, cs => ∃ y c2, cs = y :: c2 ∧ x.isAgg = false ∧ Rep I w x [y] ∧ Rep1 I w r c2
end

/-- one value, as a temporary holds it -/
def RepV (I : Nat → Nat → Prop) (w : World) : AV → Value → Prop
  | .any, _ => True
  | .v x, y => y = x
  | .agg l, y => ∃ cs : List Value, y = .agg cs.toArray ∧ Reps I w l cs
  | .tup _, _ => False
  | .sl l, y => Rep I w (.sl l) [y]
  | .ip x, y => Rep I w (.ip x) [y]
  | .bp b o p, y => Rep I w (.bp b o p) [y]
  | .slr b s i j, y => Rep I w (.slr b s i j) [y]
  | .fn f a c, y => Rep I w (.fn f a c) [y]
  | .mp b, y => Rep I w (.mp b) [y]

def RepVs (I : Nat → Nat → Prop) (w : World) : List AV → List Value → Prop
  | [], cs => cs = []
  | x :: r, cs => ∃ y c2, cs = y :: c2 ∧ RepV I w x y ∧ RepVs I w r c2

/-- a temporary's value, tuples too -/
def RepT (I : Nat → Nat → Prop) (w : World) : AV → Value → Prop
  | .tup l, y => ∃ vs : List Value, y = .tuple vs.toArray ∧ RepVs I w l vs
  | x, y => RepV I w x y

inductive Res where
  | box (x : AV)
  | arr (s : Nat) (l : List AV)
  | map (es : List (Value × AV))
  | ty (T : TypeId) (r : Res)

abbrev Heap := Nat → Option Res

def Heap.upd (H : Heap) (b : Nat) (r : Res) : Heap := fun c => if c = b then some r else H c
def Heap.erase (H : Heap) (b : Nat) : Heap := fun c => if c = b then none else H c

def MapOk (I : Nat → Nat → Prop) (w : World) : List (Value × AV) → List MapEntry → Prop
  | [], es => es = []
  | (k, x) :: r, es => ∃ e es', es = e :: es' ∧ e.key = k ∧ RepV I w x e.val ∧ MapOk I w r es'

def ResOk (I : Nat → Nat → Prop) (w : World) (b : Nat) : Res → Prop
  | .box x => (∀ o, ¬ I b o) ∧ ∃ cs T, w.heap[b]? = some (.cells cs T (0, 0)) ∧ Rep I w x cs.toList
  | .arr s l => (∀ o, ¬ I b o) ∧ ∃ cs T c1 c2, w.heap[b]? = some (.cells cs T (0, 0)) ∧ (∀ x ∈ l, x.size = s) ∧ cs.toList = c1 ++ c2 ∧ Reps I w l c1
  | .map es => (∀ o, ¬ I b o) ∧ ∃ a n, w.heap[b]? = some (.map a n) ∧ MapOk I w es a.toList
  | .ty T r => ResOk I w b r ∧ ∃ n, w.shape? b = some (T, n)

structure Rel (I : Nat → Nat → Prop) (w : World) (H : Heap) : Prop where
  res : ∀ b r, H b = some r → ResOk I w b r
  lt : ∀ b o, I b o → b < w.heap.size

/-- memory has grown: what never changes is as it was, and what no resource of ours was is as it was -/
structure Ext (I : Nat → Nat → Prop) (w : World) (H : Heap) (I' : Nat → Nat → Prop) (w' : World) (H' : Heap) : Prop where
  keep : ∀ b o, I b o → I' b o ∧ w'.cell? ⟨b, o, none⟩ = w.cell? ⟨b, o, none⟩
  shape : ∀ b s, w.shape? b = some s → w'.shape? b = some s
  size : w.heap.size ≤ w'.heap.size
  frame : ∀ b, b < w.heap.size → H b = none → w'.heap[b]? = w.heap[b]? ∧ H' b = none ∧ ∀ o, I' b o → I b o
  tape : w'.tape = w.tape
  os : w'.os = w.os
  output : w'.output = w.output

theorem Ext.refl {I : Nat → Nat → Prop} {w : World} {H : Heap} : Ext I w H I w H :=
  ⟨fun _ _ h => ⟨h, rfl⟩, fun _ _ h => h, Nat.le_refl _, fun _ _ h => ⟨rfl, h, fun _ h => h⟩, rfl, rfl, rfl⟩

theorem Ext.trans {I1 I2 I3 : Nat → Nat → Prop} {w1 w2 w3 : World} {H1 H2 H3 : Heap} (h : Ext I1 w1 H1 I2 w2 H2) (h' : Ext I2 w2 H2 I3 w3 H3) : Ext I1 w1 H1 I3 w3 H3 where
  keep b o hI := ⟨(h'.keep b o (h.keep b o hI).1).1, ((h'.keep b o (h.keep b o hI).1).2).trans (h.keep b o hI).2⟩
  shape b s hs := h'.shape b s (h.shape b s hs)
  size := Nat.le_trans h.size h'.size
  frame b hb hH := by
    obtain ⟨a1, a2, a3⟩ := h.frame b hb hH
    obtain ⟨b1, b2, b3⟩ := h'.frame b (Nat.lt_of_lt_of_le hb h.size) a2
    exact ⟨b1.trans a1, b2, fun o ho => a3 o (b3 o ho)⟩
  tape := h'.tape.trans h.tape
  os := h'.os.trans h.os
  output := h'.output.trans h.output

/-- what representation looks at has lasted -/
structure Lasts (I : Nat → Nat → Prop) (w : World) (I' : Nat → Nat → Prop) (w' : World) : Prop where
  keep : ∀ b o, I b o → I' b o ∧ w'.cell? ⟨b, o, none⟩ = w.cell? ⟨b, o, none⟩
  shape : ∀ b s, w.shape? b = some s → w'.shape? b = some s

theorem Ext.lasts {I I' : Nat → Nat → Prop} {w w' : World} {H H' : Heap} (h : Ext I w H I' w' H') : Lasts I w I' w' := ⟨h.keep, h.shape⟩

section
variable {I I' : Nat → Nat → Prop} {w w' : World} (h : Lasts I w I' w')
include h

theorem At.lasts {b o : Nat} {cs : List Value} (ha : At I w b o cs) : At I' w' b o cs := fun i hi =>
  ⟨(h.keep _ _ (ha i hi).1).1, ((h.keep _ _ (ha i hi).1).2).trans (ha i hi).2⟩

mutual
theorem Rep.lasts : ∀ (x : AV) (cs : List Value), Rep I w x cs → Rep I' w' x cs
  | .any, cs, hr => by simpa only [Rep] using hr
  | .v _, cs, hr => by simpa only [Rep] using hr
  | .agg l, cs, hr => by simp only [Rep] at hr ⊢; exact Reps.lasts l cs hr
  | .tup _, cs, hr => by simpa only [Rep] using hr
  | .sl l, cs, hr => by
    simp only [Rep] at hr ⊢
    obtain ⟨a, cap, cells, h1, h2, h3, hcap, h4⟩ := hr
    refine ⟨a, cap, cells, h1, Reps.lasts l cells h2, h3, hcap, ?_⟩
    rcases h4 with h4 | ⟨b, o, h5, h6⟩
    · exact .inl h4
    · exact .inr ⟨b, o, h5, At.lasts h h6⟩
  | .ip x, cs, hr => by
    simp only [Rep] at hr ⊢
    obtain ⟨b, o, cells, h1, h2, h3⟩ := hr
    exact ⟨b, o, cells, h1, Rep.lasts x cells h2, At.lasts h h3⟩
  | .bp _ _ _, cs, hr => by simpa only [Rep] using hr
  | .slr b s i j, cs, hr => by
    simp only [Rep] at hr ⊢
    obtain ⟨off, cap, h1, h2, h3, h4, T, n, h5, h6⟩ := hr
    exact ⟨off, cap, h1, h2, h3, h4, T, n, h.shape _ _ h5, h6⟩
  | .fn f a c, cs, hr => by
    simp only [Rep] at hr ⊢
    obtain ⟨c1, c2, h1, h2, h3⟩ := hr
    exact ⟨c1, c2, h1, Rep1.lasts a c1 h2, Rep1.lasts c c2 h3⟩
  | .mp _, cs, hr => by simpa only [Rep] using hr
theorem Reps.lasts : ∀ (l : List AV) (cs : List Value), Reps I w l cs → Reps I' w' l cs
  | [], cs, hr => by simpa only [Reps] using hr
  | x :: r, cs, hr => by
    simp only [Reps] at hr ⊢
    obtain ⟨c1, c2, h1, h2, h3⟩ := hr
    exact ⟨c1, c2, h1, Rep.lasts x c1 h2, Reps.lasts r c2 h3⟩
theorem Rep1.lasts : ∀ (l : List AV) (cs : List Value), Rep1 I w l cs → Rep1 I' w' l cs
  | [], cs, hr => by simpa only [Rep1] using hr
  | x :: r, cs, hr => by
    simp only [Rep1] at hr ⊢
    obtain ⟨y, c2, h1, ha, h2, h3⟩ := hr
    exact ⟨y, c2, h1, ha, Rep.lasts x [y] h2, Rep1.lasts r c2 h3⟩
end

theorem RepV.lasts {x : AV} {y : Value} (hr : RepV I w x y) : RepV I' w' x y := by
  cases x <;> simp only [RepV] at hr ⊢
  all_goals first
    | exact hr
    | exact Rep.lasts h _ _ hr
    | (obtain ⟨cs, h1, h2⟩ := hr; exact ⟨cs, h1, Reps.lasts h _ _ h2⟩)

theorem RepVs.lasts : ∀ {l : List AV} {cs : List Value}, RepVs I w l cs → RepVs I' w' l cs
  | [], cs, hr => by simpa only [RepVs] using hr
  | x :: r, cs, hr => by
    simp only [RepVs] at hr ⊢
    obtain ⟨y, c2, h1, h2, h3⟩ := hr
    exact ⟨y, c2, h1, RepV.lasts h h2, RepVs.lasts h3⟩

theorem RepT.lasts {x : AV} {y : Value} (hr : RepT I w x y) : RepT I' w' x y := by
  cases x <;> simp only [RepT] at hr ⊢
  all_goals first
    | exact RepV.lasts h hr
    | (obtain ⟨cs, h1, h2⟩ := hr; exact ⟨cs, h1, RepVs.lasts h h2⟩)

theorem MapOk.lasts : ∀ {es : List (Value × AV)} {l : List MapEntry}, MapOk I w es l → MapOk I' w' es l
  | [], l, hr => by simpa only [MapOk] using hr
  | (k, x) :: r, l, hr => by
    simp only [MapOk] at hr ⊢
    obtain ⟨e, es', h1, h2, h3, h4⟩ := hr
    exact ⟨e, es', h1, h2, RepV.lasts h h3, MapOk.lasts h4⟩
end

mutual
theorem Rep.length {I : Nat → Nat → Prop} {w : World} : ∀ (x : AV) (cs : List Value), Rep I w x cs → cs.length = x.size
  | .any, cs, hr => by simp only [Rep] at hr; obtain ⟨x, h1, _⟩ := hr; simp [h1, AV.size]
  | .v _, cs, hr => by simp only [Rep] at hr; simp [hr.1, AV.size]
  | .agg l, cs, hr => by simp only [Rep] at hr; simp only [AV.size]; exact Reps.length l cs hr
  | .tup _, cs, hr => by simp only [Rep] at hr
  | .sl l, cs, hr => by simp only [Rep] at hr; obtain ⟨a, cap, cells, h1, _⟩ := hr; simp [h1, AV.size]
  | .ip x, cs, hr => by simp only [Rep] at hr; obtain ⟨b, o, cells, h1, _⟩ := hr; simp [h1, AV.size]
  | .bp _ _ _, cs, hr => by simp only [Rep] at hr; simp [hr, AV.size]
  | .slr b s i j, cs, hr => by simp only [Rep] at hr; obtain ⟨off, cap, h1, _⟩ := hr; simp [h1, AV.size]
  | .fn f a c, cs, hr => by simp only [Rep] at hr; obtain ⟨c1, c2, h1, _⟩ := hr; simp [h1, AV.size]
  | .mp _, cs, hr => by simp only [Rep] at hr; simp [hr, AV.size]
theorem Reps.length {I : Nat → Nat → Prop} {w : World} : ∀ (l : List AV) (cs : List Value), Reps I w l cs → cs.length = AV.sizes l
  | [], cs, hr => by simp only [Reps] at hr; simp [hr, AV.sizes]
  | x :: r, cs, hr => by
    simp only [Reps] at hr
    obtain ⟨c1, c2, h1, h2, h3⟩ := hr
    have e1 := Rep.length x c1 h2
    have e2 := Reps.length r c2 h3
    simp [h1, AV.sizes, e1, e2]
end

mutual
theorem Rep.one {I : Nat → Nat → Prop} {w : World} : ∀ (x : AV) (cs : List Value), Rep I w x cs → ∀ c ∈ cs, c.oneCell' = true
  | .any, cs, hr => by simp only [Rep] at hr; obtain ⟨x, h1, h2⟩ := hr; simp [h1, h2]
  | .v _, cs, hr => by simp only [Rep] at hr; simp [hr.1, hr.2]
  | .agg l, cs, hr => by simp only [Rep] at hr; exact Reps.one l cs hr
  | .tup _, cs, hr => by simp only [Rep] at hr
  | .sl l, cs, hr => by simp only [Rep] at hr; obtain ⟨a, cap, cells, h1, _⟩ := hr; simp [h1, Value.oneCell']
  | .ip x, cs, hr => by simp only [Rep] at hr; obtain ⟨b, o, cells, h1, _⟩ := hr; simp [h1, Value.oneCell']
  | .bp _ _ _, cs, hr => by simp only [Rep] at hr; simp [hr, Value.oneCell']
  | .slr b s i j, cs, hr => by simp only [Rep] at hr; obtain ⟨off, cap, h1, _⟩ := hr; simp [h1, Value.oneCell']
  | .fn f a c, cs, hr => by simp only [Rep] at hr; obtain ⟨c1, c2, h1, _⟩ := hr; simp [h1, Value.oneCell']
  | .mp _, cs, hr => by simp only [Rep] at hr; simp [hr, Value.oneCell']
theorem Reps.one {I : Nat → Nat → Prop} {w : World} : ∀ (l : List AV) (cs : List Value), Reps I w l cs → ∀ c ∈ cs, c.oneCell' = true
  | [], cs, hr => by simp only [Reps] at hr; simp [hr]
  | x :: r, cs, hr => by
    simp only [Reps] at hr
    obtain ⟨c1, c2, h1, h2, h3⟩ := hr
    have e1 := Rep.one x c1 h2
    have e2 := Reps.one r c2 h3
    intro c hc
    rw [h1] at hc
    rcases List.mem_append.1 hc with h | h
    · exact e1 c h
    · exact e2 c h
end

/-- an abstract value that a variable may hold -/
def AV.solid : AV → Bool
  | .any => false
  | .tup _ => false
  | .v x => x.oneCell'
  | _ => true

theorem RepV.cells {I : Nat → Nat → Prop} {w : World} {x : AV} {y : Value} (hs : x.solid = true) (hr : RepV I w x y) : Rep I w x y.cells.toList := by
  cases x <;> simp only [AV.solid, Bool.false_eq_true] at hs <;> simp only [RepV] at hr
  case v z => subst hr; simp only [Rep]; cases y <;> simp [Value.oneCell', Value.cells] at hs ⊢ <;> rfl
  case agg l => obtain ⟨cs, h1, h2⟩ := hr; subst h1; simpa [Value.cells, Rep] using h2
  all_goals
    have h1 := Rep.one _ _ hr y (by simp)
    have : y.cells = #[y] := by cases y <;> simp [Value.oneCell', Value.cells] at h1 ⊢
    rw [this]; exact hr

theorem RepV.of_cells_agg {I : Nat → Nat → Prop} {w : World} {x : AV} {cs : List Value} (ha : x.isAgg = true) (hr : Rep I w x cs) : RepV I w x (.agg cs.toArray) := by
  cases x <;> simp [AV.isAgg] at ha
  simp only [Rep] at hr
  exact ⟨cs, rfl, hr⟩

theorem RepV.of_cell {I : Nat → Nat → Prop} {w : World} {x : AV} {y : Value} (ha : x.isAgg = false) (hr : Rep I w x [y]) : RepV I w x y := by
  cases x <;> simp [AV.isAgg] at ha <;> simp only [RepV] <;> first | exact hr | (simp only [Rep] at hr)
  case v z => simp at hr; exact hr.1

theorem RepT.of_V {I : Nat → Nat → Prop} {w : World} {x : AV} {y : Value} (hr : RepV I w x y) : RepT I w x y := by
  cases x <;> first | exact hr | (simp only [RepV] at hr)

theorem Reps.append {I : Nat → Nat → Prop} {w : World} : ∀ {l1 : List AV} {c1 : List Value} {l2 : List AV} {c2 : List Value}, Reps I w l1 c1 → Reps I w l2 c2 → Reps I w (l1 ++ l2) (c1 ++ c2)
  | [], c1, l2, c2, h1, h2 => by simp only [Reps] at h1; subst h1; simpa using h2
  | x :: r, c1, l2, c2, h1, h2 => by
    simp only [Reps] at h1
    obtain ⟨d1, d2, e1, e2, e3⟩ := h1
    simp only [List.cons_append, Reps]
    exact ⟨d1, d2 ++ c2, by rw [e1, List.append_assoc], e2, Reps.append e3 h2⟩

theorem Reps.split {I : Nat → Nat → Prop} {w : World} : ∀ {l1 : List AV} {l2 : List AV} {cs : List Value}, Reps I w (l1 ++ l2) cs → ∃ c1 c2, cs = c1 ++ c2 ∧ Reps I w l1 c1 ∧ Reps I w l2 c2
  | [], l2, cs, h => ⟨[], cs, rfl, rfl, by simpa using h⟩
  | x :: r, l2, cs, h => by
    simp only [List.cons_append, Reps] at h
    obtain ⟨d1, d2, e1, e2, e3⟩ := h
    obtain ⟨c1, c2, f1, f2, f3⟩ := Reps.split e3
    exact ⟨d1 ++ c1, c2, by rw [e1, f1, List.append_assoc], by simp only [Reps]; exact ⟨d1, c1, rfl, e2, f2⟩, f3⟩

theorem sizes_append : ∀ (l1 l2 : List AV), AV.sizes (l1 ++ l2) = AV.sizes l1 + AV.sizes l2
  | [], l2 => by simp [AV.sizes]
  | x :: r, l2 => by simp [AV.sizes, sizes_append r l2, Nat.add_assoc]

theorem sizes_uniform : ∀ (l : List AV) (s : Nat), (∀ x ∈ l, x.size = s) → AV.sizes l = l.length * s
  | [], s, _ => by simp [AV.sizes]
  | x :: r, s, h => by
    have h1 := h x (by simp)
    have h2 := sizes_uniform r s (fun y hy => h y (by simp [hy]))
    simp [AV.sizes, h1, h2, Nat.add_mul, Nat.add_comm]

/-- the i-th of a row -/
theorem Reps.get {I : Nat → Nat → Prop} {w : World} {l : List AV} {cs : List Value} (h : Reps I w l cs) {i : Nat} {x : AV} (hx : l[i]? = some x) :
    ∃ c1 c c2, cs = c1 ++ (c ++ c2) ∧ c1.length = AV.sizes (l.take i) ∧ Rep I w x c := by
  have hi : i < l.length := by
    rcases Nat.lt_or_ge i l.length with h' | h'
    · exact h'
    · simp [List.getElem?_eq_none h'] at hx
  have e : l = l.take i ++ (x :: l.drop (i + 1)) := by
    rw [List.getElem?_eq_getElem hi] at hx
    have := Option.some.inj hx
    rw [← this, ← List.drop_eq_getElem_cons hi, List.take_append_drop]
  rw [e] at h
  obtain ⟨c1, c2, f1, f2, f3⟩ := Reps.split h
  simp only [Reps] at f3
  obtain ⟨d1, d2, g1, g2, g3⟩ := f3
  exact ⟨c1, d1, d2, by rw [f1, g1], Reps.length _ _ f2, g2⟩

end Go.Flow
