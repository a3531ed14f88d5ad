/-
  Operations on abstract values: loads, stores, addresses, new variables; each proved against the model. No condition.
-/
import Derived.Test.YtlcggoafbafldaaFlowB
set_option linter.unusedSectionVars false
set_option linter.unusedVariables false
namespace Go.Flow
open Go

/-- what an operation that yields a value must show -/
def SemOk (P : Program) (s : Sem Value) (I : Nat → Nat → Prop) (w : World) (H : Heap) (K : AV → Heap → Prop) : Prop :=
  ∃ y w', s.run P w = .ok y w' ∧ ∃ x I' H', RepT I' w' x y ∧ K x H' ∧ Rel I' w' H' ∧ Ext I w H I' w' H'

theorem SemOk.same {P : Program} {s : Sem Value} {I : Nat → Nat → Prop} {w : World} {H : Heap} {K : AV → Heap → Prop} {y : Value} {x : AV}
    (hr : s.run P w = .ok y w) (hx : RepT I w x y) (hk : K x H) (hR : Rel I w H) : SemOk P s I w H K :=
  ⟨y, w, hr, x, I, H, hx, hk, hR, Ext.refl⟩

/-! ### types -/
def aggD : TypeDesc → Bool
  | .struct _ => true
  | .array _ _ => true
  | _ => false

/-- is a type one of several cells; how many -/
def flatT (P : Program) (t : TypeId) : Option (Bool × Nat) :=
  match P.info? t, P.underlying t with
  | some i, some d => some (aggD d, i.size)
  | _, _ => none

def elemT (P : Program) (t : TypeId) : Option (TypeId × Nat × Nat) :=
  match P.underlying t with
  | some (.slice e) => match P.info? e with
    | some i => some (e, i.size, i.bytes)
    | none => none
  | _ => none

def offT (P : Program) (t : TypeId) (k : Nat) : Option Nat :=
  match P.underlying t with
  | some (.struct fs) => match fs[k]? with
    | some f => match P.info? f.type with
      | some i => if i.size = 0 then none else some f.offset
      | none => none
    | none => none
  | _ => none

def AV.fits (P : Program) (t : TypeId) (x : AV) : Bool := flatT P t == some (x.isAgg, x.size)

theorem AV.fits_iff {P : Program} {t : TypeId} {x : AV} (h : x.fits P t = true) : ∃ i d, P.info? t = some i ∧ P.underlying t = some d ∧ aggD d = x.isAgg ∧ i.size = x.size := by
  unfold AV.fits flatT at h
  cases h1 : P.info? t <;> cases h2 : P.underlying t <;> simp_all

theorem run_sizeOf' {P : Program} {t : TypeId} {i : TypeInfo} (h : P.info? t = some i) (w : World) : (sizeOf t).run P w = .ok i.size w := by
  simp [sizeOf, typeInfo, h]

theorem run_isAgg' {P : Program} {t : TypeId} {d : TypeDesc} (h : P.underlying t = some d) (w : World) : (isAgg t).run P w = .ok (aggD d) w := by
  unfold isAgg
  rw [Sem.run_bind, run_underlying h w]
  cases d <;> simp [aggD]

theorem add_none (b o n : Nat) : (⟨b, o, none⟩ : Addr).add n = ⟨b, o + n, none⟩ := by
  unfold Addr.add; split <;> simp_all

/-- reading a variable whose cells are known -/
theorem run_loadVar' {P : Program} {I : Nat → Nat → Prop} {w : World} {t : TypeId} {x : AV} {b o : Nat} {cs : List Value} (hf : x.fits P t = true) (hr : Rep I w x cs)
    (hc : ∀ i, i < cs.length → w.cell? ⟨b, o + i, none⟩ = cs[i]?) : ∃ y, (loadVar t ⟨b, o, none⟩).run P w = .ok y w ∧ RepV I w x y := by
  obtain ⟨i, d, h1, h2, h3, h4⟩ := AV.fits_iff hf
  have hlen := Rep.length x cs hr
  have hl : (loadCells ⟨b, o, none⟩ cs.length).run P w = .ok cs.toArray w :=
    run_loadCells_list (P := P) w ⟨b, o, none⟩ cs fun j v hv => by
      have hj : j < cs.length := by
        rcases Nat.lt_or_ge j cs.length with h' | h'
        · exact h'
        · simp [List.getElem?_eq_none h'] at hv
      rw [add_none, hc j hj, hv]
  unfold loadVar
  simp only [Sem.run_bind, run_isAgg' h2, Result.andThen_ok]
  cases hag : x.isAgg with
  | true =>
    rw [hag] at h3
    simp only [h3, if_true, Sem.run_bind, run_sizeOf' h1, Result.andThen_ok, h4, ← hlen, hl, Sem.run_pure]
    exact ⟨_, rfl, RepV.of_cells_agg hag hr⟩
  | false =>
    rw [hag] at h3
    have hs1 : x.size = 1 := by cases x <;> simp [AV.isAgg] at hag <;> rfl
    rw [hs1] at hlen
    match cs, hlen with
    | [c], _ =>
      have h0 := hc 0 (by simp)
      simp only [Nat.add_zero] at h0
      simp only [h3, Bool.false_eq_true, if_false, run_load, h0]
      exact ⟨c, rfl, RepV.of_cell hag hr⟩

/-! ### places in a variable -/
mutual
def AV.at : AV → List Nat → Option (Nat × AV)
  | x, [] => some (0, x)
  | .agg l, i :: p => AV.atL l i p
  | _, _ => none
def AV.atL : List AV → Nat → List Nat → Option (Nat × AV)
  | [], _, _ => none
  | x :: _, 0, p => x.at p
  | x :: r, i + 1, p => (AV.atL r i p).map fun y => (x.size + y.1, y.2)
end

mutual
def AV.put : AV → List Nat → AV → AV
  | _, [], y => y
  | .agg l, i :: p, y => .agg (AV.putL l i p y)
  | x, _, _ => x
def AV.putL : List AV → Nat → List Nat → AV → List AV
  | [], _, _, _ => []
  | x :: r, 0, p, y => x.put p y :: r
  | x :: r, i + 1, p, y => x :: AV.putL r i p y
end

mutual
theorem Rep.at {I : Nat → Nat → Prop} {w : World} : ∀ (x : AV) (p : List Nat) (cs : List Value) (o : Nat) (y : AV), Rep I w x cs → x.at p = some (o, y) →
    ∃ c1 c c2, cs = c1 ++ (c ++ c2) ∧ c1.length = o ∧ Rep I w y c ∧ ∀ (z : AV) (d : List Value), Rep I w z d → Rep I w (x.put p z) (c1 ++ (d ++ c2))
  | x, [], cs, o, y, hr, ha => by
    have ha' : (0, x) = (o, y) := by cases x <;> simpa [AV.at] using ha
    cases ha'
    refine ⟨[], cs, [], by simp, rfl, hr, fun z d hd => ?_⟩
    cases x <;> simpa [AV.put] using hd
  | .agg l, i :: p, cs, o, y, hr, ha => by
    simp only [Rep] at hr
    simp only [AV.at] at ha
    obtain ⟨c1, c, c2, h1, h2, h3, h4⟩ := Rep.atL l i p cs o y hr ha
    exact ⟨c1, c, c2, h1, h2, h3, fun z d hd => by simp only [AV.put, Rep]; exact h4 z d hd⟩
  | .any, _ :: _, _, _, _, _, ha => by simp [AV.at] at ha
  | .v _, _ :: _, _, _, _, _, ha => by simp [AV.at] at ha
  | .tup _, _ :: _, _, _, _, _, ha => by simp [AV.at] at ha
  | .sl _, _ :: _, _, _, _, _, ha => by simp [AV.at] at ha
  | .ip _, _ :: _, _, _, _, _, ha => by simp [AV.at] at ha
  | .bp _ _ _, _ :: _, _, _, _, _, ha => by simp [AV.at] at ha
  | .slr _ _ _ _, _ :: _, _, _, _, _, ha => by simp [AV.at] at ha
  | .fn _ _ _, _ :: _, _, _, _, _, ha => by simp [AV.at] at ha
  | .mp _, _ :: _, _, _, _, _, ha => by simp [AV.at] at ha
theorem Rep.atL {I : Nat → Nat → Prop} {w : World} : ∀ (l : List AV) (i : Nat) (p : List Nat) (cs : List Value) (o : Nat) (y : AV), Reps I w l cs → AV.atL l i p = some (o, y) →
    ∃ c1 c c2, cs = c1 ++ (c ++ c2) ∧ c1.length = o ∧ Rep I w y c ∧ ∀ (z : AV) (d : List Value), Rep I w z d → Reps I w (AV.putL l i p z) (c1 ++ (d ++ c2))
  | [], _, _, _, _, _, _, ha => by simp [AV.atL] at ha
  | x :: r, 0, p, cs, o, y, hr, ha => by
    simp only [Reps] at hr
    obtain ⟨d1, d2, e1, e2, e3⟩ := hr
    simp only [AV.atL] at ha
    obtain ⟨c1, c, c2, h1, h2, h3, h4⟩ := Rep.at x p d1 o y e2 ha
    refine ⟨c1, c, c2 ++ d2, by rw [e1, h1]; simp, h2, h3, fun z d hd => ?_⟩
    simp only [AV.putL, Reps]
    exact ⟨c1 ++ (d ++ c2), d2, by simp, h4 z d hd, e3⟩
  | x :: r, i + 1, p, cs, o, y, hr, ha => by
    simp only [Reps] at hr
    obtain ⟨d1, d2, e1, e2, e3⟩ := hr
    simp only [AV.atL, Option.map_eq_some_iff] at ha
    obtain ⟨⟨o', y'⟩, ha1, ha2⟩ := ha
    simp only [Prod.mk.injEq] at ha2
    obtain ⟨ha3, rfl⟩ := ha2
    obtain ⟨c1, c, c2, h1, h2, h3, h4⟩ := Rep.atL r i p d2 o' y' e3 ha1
    refine ⟨d1 ++ c1, c, c2, by rw [e1, h1]; simp, by simp [h2, Rep.length _ _ e2, ha3], h3, fun z d hd => ?_⟩
    simp only [AV.putL, Reps]
    exact ⟨d1, c1 ++ (d ++ c2), by simp, e2, h4 z d hd⟩
end

/-- what lies at a place in a resource: from which cell on; what -/
def Res.at : Res → List Nat → Option (Nat × AV)
  | .box x, p => x.at p
  | .arr s l, i :: p => match l[i]? with
    | some x => (x.at p).map fun y => (i * s + y.1, y.2)
    | none => none
  | .ty _ r, p => r.at p
  | _, _ => none

def Res.put : Res → List Nat → AV → Res
  | .box x, p, y => .box (x.put p y)
  | .arr s l, i :: p, y => match l[i]? with
    | some x => .arr s (l.set i (x.put p y))
    | none => .arr s l
  | .ty T r, p, y => .ty T (r.put p y)
  | r, _, _ => r

theorem size_put_aux {x y : AV} {p : List Nat} : True := trivial

mutual
theorem AV.size_put : ∀ (x : AV) (p : List Nat) (o : Nat) (y z : AV), x.at p = some (o, y) → z.size = y.size → (x.put p z).size = x.size
  | x, [], o, y, z, ha, hs => by
    have ha' : (0, x) = (o, y) := by cases x <;> simpa [AV.at] using ha
    cases ha'
    have : x.put [] z = z := by cases x <;> rfl
    rw [this, hs]
  | .agg l, i :: p, o, y, z, ha, hs => by
    simp only [AV.at] at ha
    simp only [AV.put, AV.size]
    exact AV.size_putL l i p o y z ha hs
  | .any, _ :: _, _, _, _, ha, _ => by simp [AV.at] at ha
  | .v _, _ :: _, _, _, _, ha, _ => by simp [AV.at] at ha
  | .tup _, _ :: _, _, _, _, ha, _ => by simp [AV.at] at ha
  | .sl _, _ :: _, _, _, _, ha, _ => by simp [AV.at] at ha
  | .ip _, _ :: _, _, _, _, ha, _ => by simp [AV.at] at ha
  | .bp _ _ _, _ :: _, _, _, _, ha, _ => by simp [AV.at] at ha
  | .slr _ _ _ _, _ :: _, _, _, _, ha, _ => by simp [AV.at] at ha
  | .fn _ _ _, _ :: _, _, _, _, ha, _ => by simp [AV.at] at ha
  | .mp _, _ :: _, _, _, _, ha, _ => by simp [AV.at] at ha
theorem AV.size_putL : ∀ (l : List AV) (i : Nat) (p : List Nat) (o : Nat) (y z : AV), AV.atL l i p = some (o, y) → z.size = y.size → AV.sizes (AV.putL l i p z) = AV.sizes l
  | [], _, _, _, _, _, ha, _ => by simp [AV.atL] at ha
  | x :: r, 0, p, o, y, z, ha, hs => by
    simp only [AV.atL] at ha
    simp only [AV.putL, AV.sizes]
    rw [AV.size_put x p o y z ha hs]
  | x :: r, i + 1, p, o, y, z, ha, hs => by
    simp only [AV.atL, Option.map_eq_some_iff] at ha
    obtain ⟨⟨o', y'⟩, ha1, ha2⟩ := ha
    simp only [Prod.mk.injEq] at ha2
    obtain ⟨_, rfl⟩ := ha2
    simp only [AV.putL, AV.sizes]
    rw [AV.size_putL r i p o' y' z ha1 hs]
end

/-- a resource's cells, and the one place among them -/
theorem ResOk.at {I : Nat → Nat → Prop} {w : World} {b : Nat} {r : Res} {p : List Nat} {o : Nat} {y : AV} (hr : ResOk I w b r) (ha : r.at p = some (o, y)) :
    ∃ cs T c1 c c2, w.heap[b]? = some (.cells cs T (0, 0)) ∧ cs.toList = c1 ++ (c ++ c2) ∧ c1.length = o ∧ Rep I w y c ∧ (∀ o, ¬ I b o) ∧
      ∀ (w' : World) (z : AV) (d : List Value), z.size = y.size → Rep I w z d → Lasts I w I w' → w'.heap[b]? = some (.cells (c1 ++ (d ++ c2)).toArray T (0, 0)) → ResOk I w' b (r.put p z) := by
  induction r with
  | ty T r ih =>
    simp only [ResOk] at hr
    obtain ⟨hr1, n, hr2⟩ := hr
    simp only [Res.at] at ha
    obtain ⟨cs, T', c1, c, c2, g1, g2, g3, g4, g5, g6⟩ := ih hr1 ha
    exact ⟨cs, T', c1, c, c2, g1, g2, g3, g4, g5, fun w' z d hz hd hl hw => by
      simp only [Res.put, ResOk]
      exact ⟨g6 w' z d hz hd hl hw, n, hl.shape _ _ hr2⟩⟩
  | box x =>
    simp only [ResOk] at hr
    obtain ⟨hn, cs, T, h1, h2⟩ := hr
    simp only [Res.at] at ha
    obtain ⟨c1, c, c2, g1, g2, g3, g4⟩ := Rep.at x p cs.toList o y h2 ha
    refine ⟨cs, T, c1, c, c2, h1, g1, g2, g3, hn, fun w' z d hz hd hl hw => ?_⟩
    simp only [Res.put, ResOk]
    exact ⟨hn, _, T, hw, Rep.lasts hl _ _ (by simpa using g4 z d hd)⟩
  | arr s l =>
    cases p with
    | nil => simp [Res.at] at ha
    | cons i p =>
      simp only [ResOk] at hr
      obtain ⟨hn, cs, T, e1, e2, h1, hu, h2, h3⟩ := hr
      simp only [Res.at] at ha
      cases hx : l[i]? with
      | none => simp [hx] at ha
      | some x =>
        simp only [hx, Option.map_eq_some_iff] at ha
        obtain ⟨⟨o', y'⟩, ha1, ha2⟩ := ha
        simp only [Prod.mk.injEq] at ha2
        obtain ⟨ha3, rfl⟩ := ha2
        have hi : i < l.length := by
          rcases Nat.lt_or_ge i l.length with h' | h'
          · exact h'
          · simp [List.getElem?_eq_none h'] at hx
        have el : l = l.take i ++ (x :: l.drop (i + 1)) := by
          rw [List.getElem?_eq_getElem hi] at hx
          rw [← Option.some.inj hx, ← List.drop_eq_getElem_cons hi, List.take_append_drop]
        have h3' := h3
        rw [el] at h3'
        obtain ⟨d1, d2, f1, f2, f3⟩ := Reps.split h3'
        simp only [Reps] at f3
        obtain ⟨x1, x2, g1, g2, g3⟩ := f3
        obtain ⟨c1, c, c2, k1, k2, k3, k4⟩ := Rep.at x p x1 o' y' g2 ha1
        have hxs : x.size = s := hu x (by rw [el]; simp)
        have hd1 : d1.length = i * s := by
          rw [Reps.length _ _ f2, sizes_uniform _ s (fun z hz => hu z (List.mem_of_mem_take hz))]
          simp [Nat.min_eq_left (Nat.le_of_lt hi)]
        refine ⟨cs, T, d1 ++ c1, c, c2 ++ (x2 ++ e2), h1, by rw [h2, f1, g1, k1]; simp, by simp [k2, hd1, ← ha3], k3, hn, fun w' z d hz hd hl hw => ?_⟩
        simp only [Res.put, hx, ResOk]
        refine ⟨hn, _, T, d1 ++ ((c1 ++ (d ++ c2)) ++ x2), e2, hw, ?_, by simp, Reps.lasts hl _ _ ?_⟩
        · intro q hq
          rcases List.mem_or_eq_of_mem_set hq with hq | hq
          · exact hu q hq
          · rw [hq, AV.size_put x p o' y' z ha1 hz, hxs]
        · have : l.set i (x.put p z) = l.take i ++ (x.put p z :: l.drop (i + 1)) := by
            rw [List.set_eq_take_append_cons_drop, if_pos hi]
          rw [this]
          refine Reps.append f2 ?_
          simp only [Reps]
          exact ⟨_, x2, rfl, k4 z d hd, g3⟩
  | map es =>
    cases p <;> simp [Res.at] at ha

end Go.Flow
