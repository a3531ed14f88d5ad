/-
  Lists, step by step: what a walk's rounds need. No condition.
-/
import Derived.Test.YtlcggoafbafldaaFlowL
set_option linter.unusedVariables false
namespace Go.Flow
open Go

theorem at_drop {α : Type} (l : List α) (k : Nat) (h : k < l.length) : ∃ x, l[k]? = some x ∧ l.drop k = x :: l.drop (k + 1) ∧ x ∈ l ∧ l.take (k + 1) = l.take k ++ [x] :=
  ⟨l[k], List.getElem?_eq_getElem h, List.drop_eq_getElem_cons h, List.getElem_mem h, by rw [List.take_add_one, List.getElem?_eq_getElem h]; rfl⟩

theorem drop_end {α : Type} (l : List α) (k : Nat) (h : ¬ ((k : Int) < l.length)) : l.drop k = [] := List.drop_eq_nil_of_le (by omega)

theorem take_end {α : Type} (l : List α) (k : Nat) (h : ¬ ((k : Int) < l.length)) : l.take k = l := List.take_of_length_le (by omega)

/-! ### words that come up in every walk -/
theorem go_ge0 (k : Nat) : (0 ≤ (k : Int)) = True := by simp
theorem go_notup_nil : (∀ x ∈ ([] : List AV), ∀ q : List AV, x ≠ .tup q) = True := by simp
theorem go_notup_cons (a : AV) (l : List AV) : (∀ x ∈ a :: l, ∀ q : List AV, x ≠ .tup q) = ((∀ q : List AV, a ≠ .tup q) ∧ ∀ x ∈ l, ∀ q : List AV, x ≠ .tup q) := by simp
theorem go_nt_v (x : Value) : (∀ q : List AV, AV.v x ≠ .tup q) = True := by simp
theorem go_nt_agg (x : List AV) : (∀ q : List AV, AV.agg x ≠ .tup q) = True := by simp
theorem go_nt_sl (x : List AV) : (∀ q : List AV, AV.sl x ≠ .tup q) = True := by simp
theorem go_nt_ip (x : AV) : (∀ q : List AV, AV.ip x ≠ .tup q) = True := by simp
theorem go_nt_bp (b o : Nat) (p) : (∀ q : List AV, AV.bp b o p ≠ .tup q) = True := by simp
theorem go_nt_slr (b s i j : Nat) : (∀ q : List AV, AV.slr b s i j ≠ .tup q) = True := by simp
theorem go_nt_fn (f a c) : (∀ q : List AV, AV.fn f a c ≠ .tup q) = True := by simp
theorem go_nt_mp (b : Nat) : (∀ q : List AV, AV.mp b ≠ .tup q) = True := by simp
theorem go_all_nil (p : AV → Prop) : (∀ x ∈ ([] : List AV), p x) = True := by simp
theorem go_all_cons (p : AV → Prop) (a : AV) (l : List AV) : (∀ x ∈ a :: l, p x) = (p a ∧ ∀ x ∈ l, p x) := by simp
theorem go_00 : ((0 : Int) ≤ 0) = True := by simp
theorem go_tn0 : Int.toNat 0 = 0 := rfl
attribute [go_sem] go_00 go_tn0 go_all_nil go_all_cons go_ge0 go_notup_nil go_notup_cons go_nt_v go_nt_agg go_nt_sl go_nt_ip go_nt_bp go_nt_slr go_nt_fn go_nt_mp

/-! ### a nil slice is a slice without elements -/
mutual
def AV.soft : AV → AV
  | .v (.slice none 0 0) => .sl []
  | .agg l => .agg (AV.softs l)
  | x => x
def AV.softs : List AV → List AV
  | [] => []
  | x :: r => x.soft :: AV.softs r
end

mutual
theorem AV.soft_isAgg : ∀ x : AV, x.soft.isAgg = x.isAgg
  | .v x => by unfold AV.soft; split <;> simp_all [AV.isAgg]
  | .agg l => by simp [AV.soft, AV.isAgg]
  | .any | .tup _ | .sl _ | .ip _ | .bp _ _ _ | .slr _ _ _ _ | .fn _ _ _ | .mp _ => by simp [AV.soft]
theorem AV.soft_size : ∀ x : AV, x.soft.size = x.size
  | .v x => by unfold AV.soft; split <;> simp_all [AV.size]
  | .agg l => by simp only [AV.soft, AV.size]; exact AV.softs_sizes l
  | .any | .tup _ | .sl _ | .ip _ | .bp _ _ _ | .slr _ _ _ _ | .fn _ _ _ | .mp _ => by simp [AV.soft]
theorem AV.softs_sizes : ∀ l : List AV, AV.sizes (AV.softs l) = AV.sizes l
  | [] => rfl
  | x :: r => by simp only [AV.softs, AV.sizes, AV.soft_size x, AV.softs_sizes r]
end

mutual
theorem Rep.soft {I : Nat → Nat → Prop} {w : World} : ∀ (x : AV) (cs : List Value), Rep I w x cs → Rep I w x.soft cs
  | .v x, cs, h => by
    unfold AV.soft
    split
    · rename_i h'
      cases h'
      simp only [Rep] at h ⊢
      exact ⟨none, 0, [], h.1, rfl, ⟨0, by simp⟩, Nat.le_refl _, .inl (by simp)⟩
    · rename_i h'; cases h'
    · exact h
  | .agg l, cs, h => by simp only [AV.soft, Rep] at h ⊢; exact Reps.soft l cs h
  | .any, cs, h | .tup _, cs, h | .sl _, cs, h | .ip _, cs, h | .bp _ _ _, cs, h | .slr _ _ _ _, cs, h | .fn _ _ _, cs, h | .mp _, cs, h => by simpa only [AV.soft] using h
theorem Reps.soft {I : Nat → Nat → Prop} {w : World} : ∀ (l : List AV) (cs : List Value), Reps I w l cs → Reps I w (AV.softs l) cs
  | [], cs, h => h
  | x :: r, cs, h => by
    simp only [AV.softs, Reps] at h ⊢
    obtain ⟨c1, c2, rfl, h1, h2⟩ := h
    exact ⟨c1, c2, rfl, Rep.soft x c1 h1, Reps.soft r c2 h2⟩
end

theorem RepT.soft {I : Nat → Nat → Prop} {w : World} {x : AV} {y : Value} (h : RepT I w x y) : RepT I w x.soft y := by
  cases x with
  | v x =>
    unfold AV.soft
    split
    · rename_i h'
      cases h'
      simp only [RepT, RepV, Rep] at h ⊢
      exact ⟨none, 0, [], by simp [h], rfl, ⟨0, by simp⟩, Nat.le_refl _, .inl (by simp)⟩
    · rename_i h'; cases h'
    · exact h
  | agg l =>
    simp only [AV.soft, RepT, RepV] at h ⊢
    obtain ⟨cs, h1, h2⟩ := h
    exact ⟨cs, h1, Reps.soft l cs h2⟩
  | _ => simpa only [AV.soft] using h

/-- what a call hands back: a nil slice is one without elements -/
theorem ACalls.soft {P : Program} {f : FuncId} {args : List AV} {H : Heap} {K K' : AV → Heap → Prop} (h : ACalls P f args H K) (hk : ∀ x H, K x H → K' x H ∨ K' x.soft H) : ACalls P f args H K' :=
  ⟨h.1, fun I w vs hR hv => (h.2 I w vs hR hv).mono fun e w' ⟨y, e1, I', x, H', k, r1, r2, r3⟩ => by
    rcases hk x H' k with hk | hk
    · exact ⟨y, e1, I', x, H', hk, r1, r2, r3⟩
    · exact ⟨y, e1, I', _, H', hk, r1.soft, r2, r3⟩⟩

/-- a temporary, read so -/
theorem ACode.soft {P : Program} {N : Nat} {c : Code} {Q : Exit → Env → Heap → Prop} {ρ : Env} {H : Heap} (t : Nat) (h : ACode P N c Q (ρ.put (some t) (ρ.get t).soft) H) : ACode P N c Q ρ H :=
  fun I w a hR hG => h I w a hR ⟨hG.defers, hG.size, fun u => by
    by_cases e : u = t
    · subst e; simpa [Env.put, Env.get] using (hG.rep u).soft
    · simpa [Env.put, Env.get, e] using hG.rep u⟩

/-! ### a list that grows -/
/-- what has been appended so far to a nil slice; H: what there was before -/
def AppSt (H : Heap) (s : Nat) (l : List AV) (x : AV) (H' : Heap) : Prop :=
  Heap.le H H' ∧ ((l = [] ∧ x = .v (.slice none 0 0)) ∨ ∃ b, H b = none ∧ H' b = some (.arr s l) ∧ x = .slr b s 0 l.length)

theorem AppSt.nil {H : Heap} {s : Nat} : AppSt H s [] (.v (.slice none 0 0)) H := ⟨fun _ _ h => h, .inl ⟨rfl, rfl⟩⟩

theorem AppSt.le {H H1 H2 : Heap} {s : Nat} {l : List AV} {x : AV} (h : AppSt H s l x H1) (hle : Heap.le H1 H2) : AppSt H s l x H2 :=
  ⟨fun c q hc => hle c q (h.1 c q hc), h.2.imp id fun ⟨b, h1, h2, h3⟩ => ⟨b, h1, hle _ _ h2, h3⟩⟩

theorem AppSt.append {P : Program} {t u : TypeId} {e s nb : Nat} {z : AV} {H H1 : Heap} {l l2 : List AV} {x y : AV} {K : AV → Heap → Prop} (ha : AppSt H s l x H1) (he : elemT P t = some (e, s, nb)) (hz : zeroA P e = some z)
    (hu : notIntT P u = true) (h0 : 0 < s) (h1 : 0 < nb) (hy : srcOf H1 y = some l2) (hs : sizesAre s l2) (hn : (l.length + l2.length) * nb ≤ 140737488355328)
    (hk : ∀ x' H2, AppSt H s (l ++ l2) x' H2 → K x' H2) : aAppend P t u x y H1 K := by
  unfold aAppend
  simp only [he, hy, hz]
  refine ⟨hu, h0, h1, hs, ?_⟩
  obtain ⟨hle, ⟨rfl, rfl⟩ | ⟨b, hb, hb1, rfl⟩⟩ := ha
  · refine ⟨fun h => ?_, fun h => ⟨by simpa using hn, fun b hb => ?_⟩⟩
    · subst h; exact hk _ _ ⟨hle, .inl ⟨rfl, rfl⟩⟩
    · refine hk _ _ ⟨fun c q hc => ?_, .inr ⟨b, ?_, Heap.upd_same _ _ _, rfl⟩⟩
      · have : c ≠ b := fun e => by subst e; rw [hle c q hc] at hb; cases hb
        rw [Heap.upd_other _ _ this]; exact hle c q hc
      · cases h : H b with
        | none => rfl
        | some q => rw [hle b q h] at hb; cases hb
  · simp only [hb1, true_and, if_true, Nat.sub_zero]
    refine ⟨hn, fun b' hb' => ?_⟩
    have hb'n : H b' = none := by
      rcases hb' with rfl | hb'
      · exact hb
      · cases h : H b' with
        | none => rfl
        | some q => rw [hle b' q h] at hb'; cases hb'
    have hk2 := hk (.slr b' s 0 (l ++ l2).length) ((H1.erase b).upd b' (.arr s (l ++ l2))) ⟨fun c q hc => ?_, .inr ⟨b', hb'n, Heap.upd_same _ _ _, rfl⟩⟩
    · rw [List.length_append] at hk2; exact hk2
    · have h3 : c ≠ b' := fun e => by subst e; rw [hb'n] at hc; cases hc
      have h4 : c ≠ b := fun e => by subst e; rw [hb] at hc; cases hc
      rw [Heap.upd_other _ _ h3, Heap.erase_other _ h4]; exact hle c q hc

/-- one temporary is read so; the others stay -/
theorem ACode.freeze1 {P : Program} {N : Nat} {c : Code} {Q : Exit → Env → Heap → Prop} {ρ : Env} {H : Heap} (b t : Nat) {r : Res} (hb : H b = some r) (h : ACode P N c Q (ρ.put (some t) ((ρ.get t).fz b r)) (H.erase b)) : ACode P N c Q ρ H := by
  intro I w a hR hG
  refine Go.wp_mono (h (plusI I b) w a (freeze_rel hR hb) ⟨hG.defers, hG.size, fun u => ?_⟩) ?_
  · by_cases e : u = t
    · subst e; simpa [Env.put, Env.get] using RepT.fz (hR.res b r hb) (hG.rep u)
    · simpa [Env.put, Env.get, e] using (hG.rep u).lasts (freeze_ext (w := w) (I := I) hb).lasts
  · rintro e a' w' ⟨I', ρ', H', q, r1, r2, x1⟩
    exact ⟨I', ρ', H', q, r1, r2, (freeze_ext hb).trans x1⟩

/-- the list, from now on only read -/
theorem AppSt.done {P : Program} {N : Nat} {c : Code} {Q : Exit → Env → Heap → Prop} {ρ : Env} {H H' : Heap} {s : Nat} {l : List AV} {x : AV} (t : Nat) (ha : AppSt H s l x H') (hx : ρ.get t = x)
    (h : ACode P N c Q (ρ.put (some t) (.sl l)) H) : ACode P N c Q ρ H' := by
  obtain ⟨hle, ⟨rfl, rfl⟩ | ⟨b, hb, hb1, rfl⟩⟩ := ha
  · refine .drop ?_ hle
    refine .soft t ?_
    rw [hx]; simpa only [AV.soft] using h
  · refine .freeze1 b t hb1 ?_
    rw [hx]
    refine .drop (H' := H) (by simpa [AV.fz, fzSlr] using h) fun c q hc => ?_
    have h4 : c ≠ b := fun e => by subst e; rw [hb] at hc; cases hc
    rw [Heap.erase_other _ h4]; exact hle c q hc

/-- what a call hands back is such a list, from now on only read -/
theorem ACalls.done {P : Program} {f : FuncId} {args : List AV} {H : Heap} {K : AV → Heap → Prop} {s : Nat} {l : List AV} (h : ACalls P f args H (fun x H' => AppSt H s l x H')) (hk : K (.sl l) H) : ACalls P f args H K :=
  ⟨h.1, fun I w vs hR hv => (h.2 I w vs hR hv).mono fun e w' ⟨y, e1, I', x, H', ha, r1, r2, r3⟩ => by
    have dropE : ∀ {I2 w2 H2}, Heap.le H H2 → Ext I w H I2 w2 H2 → Ext I w H I2 w2 H := fun hle hx => { hx with frame := fun b hb hn => ⟨(hx.frame b hb hn).1, hn, (hx.frame b hb hn).2.2⟩ }
    obtain ⟨hle, ⟨rfl, rfl⟩ | ⟨b, hb, hb1, rfl⟩⟩ := ha
    · refine ⟨y, e1, I', _, H, hk, ?_, r2.drop hle, dropE hle r3⟩
      simpa only [AV.soft] using r1.soft
    · have hle2 : Heap.le H (H'.erase b) := fun c q hc => by
        have h4 : c ≠ b := fun e => by subst e; rw [hb] at hc; cases hc
        rw [Heap.erase_other _ h4]; exact hle c q hc
      refine ⟨y, e1, plusI I' b, _, H, hk, ?_, (freeze_rel r2 hb1).drop hle2, dropE hle2 (r3.trans (freeze_ext hb1))⟩
      simpa [AV.fz, fzSlr] using RepT.fz (r2.res b _ hb1) r1⟩

theorem srcOf_one (H : Heap) (q s : Nat) (y : AV) : srcOf (H.upd q (.arr s [y])) (.slr q s 0 1) = some [y] := by simp [srcOf, listOf, Heap.upd_same]

theorem sizesAre_one {s : Nat} {y : AV} (h : y.size = s) : sizesAre s [y] := by simpa [sizesAre] using h

theorem map_set_same {α : Type} (e : α → AV) {l : List α} {k : Nat} {x : α} (h : l[k]? = some x) : (l.map e).set k (e x) = l.map e := by
  rw [← List.map_set]
  congr 1
  apply List.ext_getElem?
  intro i
  rw [List.getElem?_set]
  split
  · rename_i h'; subst h'; split
    · exact h.symm
    · rename_i h2; rw [List.getElem?_eq_none (by omega)] at h; cases h
  · rfl

theorem Heap.upd_id {H : Heap} {b : Nat} {r : Res} (h : H b = some r) : H.upd b r = H := by
  funext c
  by_cases e : c = b
  · subst e; rw [Heap.upd_same, h]
  · rw [Heap.upd_other _ _ e]

theorem AppSt.base {H H' H1 : Heap} {s : Nat} {l : List AV} {x : AV} (hle : Heap.le H H') (h : AppSt H' s l x H1) : AppSt H s l x H1 :=
  ⟨fun c q hc => h.1 c q (hle c q hc), h.2.imp id fun ⟨b, h1, h2, h3⟩ => ⟨b, (by
    cases e : H b with
    | none => rfl
    | some q => rw [hle b q e] at h1; cases h1), h2, h3⟩⟩

theorem srcOf_slr {H : Heap} {b s i j : Nat} {l l2 : List AV} (hb : H b = some (.arr s l)) (hj : j ≤ l.length) (h : (l.drop i).take (j - i) = l2) : srcOf H (.slr b s i j) = some l2 := by
  simp [srcOf, listOf, hb, hj, h]
theorem srcOf_nil (H : Heap) : srcOf H (.v (.slice none 0 0)) = some [] := rfl

/-- the resources, told otherwise -/
theorem ACode.reheap {P : Program} {N : Nat} {c : Code} {Q : Exit → Env → Heap → Prop} {ρ : Env} {H : Heap} (H1 : Heap) (hr : ∀ I w, Rel I w H → Rel I w H1) (hn : ∀ b, H b = none → H1 b = none) (h : ACode P N c Q ρ H1) : ACode P N c Q ρ H :=
  fun I w a hR hG => Go.wp_mono (h I w a (hr I w hR) hG) fun _ _ _ ⟨I', ρ', H2, q, r1, r2, x⟩ => ⟨I', ρ', H2, q, r1, r2,
    { x with frame := fun b hb hH => x.frame b hb (hn b hH) }⟩

theorem softs_mem {x : AV} : ∀ {l : List AV}, x ∈ AV.softs l → ∃ y ∈ l, x = y.soft
  | y :: r, h => by
    simp only [AV.softs, List.mem_cons] at h
    rcases h with rfl | h
    · exact ⟨y, by simp, rfl⟩
    · obtain ⟨z, hz, e⟩ := softs_mem h; exact ⟨z, by simp [hz], e⟩

/-- a row in which a nil slice is read as one without elements -/
theorem ACode.softArr {P : Program} {N : Nat} {c : Code} {Q : Exit → Env → Heap → Prop} {ρ : Env} {H : Heap} (b : Nat) {s : Nat} {l : List AV} (hb : H b = some (.arr s l)) (h : ACode P N c Q ρ (H.upd b (.arr s (AV.softs l)))) : ACode P N c Q ρ H := by
  refine ACode.reheap _ (fun I w hR => ⟨fun d r hd => ?_, hR.lt⟩) (fun d hd => ?_) h
  · by_cases e : d = b
    · subst e
      rw [Heap.upd_same] at hd
      cases hd
      have hr := hR.res d _ hb
      simp only [ResOk] at hr ⊢
      obtain ⟨h0, cs, T, c1, c2, h1, h2, h3, h4⟩ := hr
      refine ⟨h0, cs, T, c1, c2, h1, fun x hx => ?_, h3, Reps.soft _ _ h4⟩
      obtain ⟨y, hy, rfl⟩ := softs_mem hx
      rw [AV.soft_size]; exact h2 y hy
    · rw [Heap.upd_other _ _ e] at hd; exact hR.res d r hd
  · rw [Heap.upd_other _ _ (fun e => by subst e; rw [hb] at hd; cases hd)]; exact hd

/-- a part of the code, and what is known behind it -/
theorem ACode.cut {P : Program} {N : Nat} {c : Code} {Q : Exit → Env → Heap → Prop} {ρ : Env} {H : Heap} (M : Env → Heap → Prop) (h : ACode P N c (fun e ρ H => e = .normal ∧ M ρ H) ρ H) (h2 : ∀ ρ H, M ρ H → Q .normal ρ H) : ACode P N c Q ρ H :=
  h.mono fun e ρ H ⟨he, hm⟩ => by subst he; exact h2 ρ H hm

theorem ACode.seq_cut {P : Program} {N : Nat} {x y : Code} {Q : Exit → Env → Heap → Prop} {ρ : Env} {H : Heap} (ts : List Nat) (M : Env → Heap → Prop) (h : ACode P N x (fun e ρ H => e = .normal ∧ M (ρ.keep ts) H) ρ H) (h2 : ∀ ρ H, M ρ H → ACode P N y Q ρ H) : ACode P N (.seq x y) Q ρ H :=
  .seq (h.mono fun e ρ H ⟨he, hm⟩ => by subst he; exact (h2 _ H hm).forget (Env.get_keep ts ρ))

/-- a call: a row or a variable is only read from here on -/
theorem ACalls.freeze {P : Program} {f : FuncId} {args : List AV} {H : Heap} {K : AV → Heap → Prop} (b : Nat) {r : Res} (hb : H b = some r) (h : ACalls P f (AV.fzs b r args) (H.erase b) K) : ACalls P f args H K := by
  refine ⟨h.1, fun I w vs hR hv => (h.2 _ w vs (freeze_rel hR hb) (RepVs.fz (hR.res b r hb) hv)).mono ?_⟩
  rintro e w' ⟨y, rfl, I', x, H', hk, hx, hR', hE⟩
  exact ⟨y, rfl, I', x, H', hk, hx, hR', (freeze_ext hb).trans hE⟩

/-- the same, and what another row holds is read so, too -/
theorem ACalls.freezeIn {P : Program} {f : FuncId} {args : List AV} {H : Heap} {K : AV → Heap → Prop} (b c : Nat) {r : Res} {s : Nat} {l : List AV} (hb : H b = some r) (hc : H c = some (.arr s l)) (hne : c ≠ b) (hs : ∀ x ∈ AV.fzs b r l, x.size = s)
    (h : ACalls P f (AV.fzs b r args) ((H.erase b).upd c (.arr s (AV.fzs b r l))) K) : ACalls P f args H K := by
  refine ⟨h.1, fun I w vs hR hv => (h.2 (plusI I b) w vs ⟨fun d q hd => ?_, (freeze_rel hR hb).lt⟩ (RepVs.fz (hR.res b r hb) hv)).mono ?_⟩
  · by_cases e : d = c
    · subst e
      rw [Heap.upd_same] at hd
      cases hd
      have h1 := (freeze_rel hR hb).res d (.arr s l) (by rw [Heap.erase_other _ hne]; exact hc)
      have h2 := hR.res d _ hc
      simp only [ResOk] at h1 h2 ⊢
      obtain ⟨g0, _⟩ := h1
      obtain ⟨_, cs, T, c1, c2, g1, g2, g3, g4⟩ := h2
      exact ⟨g0, cs, T, c1, c2, g1, hs, g3, Reps.fz (hR.res b r hb) _ _ g4⟩
    · rw [Heap.upd_other _ _ e] at hd; exact (freeze_rel hR hb).res d q hd
  · rintro e w' ⟨y, rfl, I', x, H', hk, hx, hR', hE⟩
    refine ⟨y, rfl, I', x, H', hk, hx, hR', (freeze_ext (I := I) (w := w) hb).trans ⟨hE.keep, hE.shape, hE.size, fun d hd hn => hE.frame d hd ?_, hE.tape, hE.os, hE.output⟩⟩
    by_cases e1 : d = c
    · subst e1; rw [Heap.erase_other _ hne, hc] at hn; cases hn
    · rw [Heap.upd_other _ _ e1]; exact hn

end Go.Flow
