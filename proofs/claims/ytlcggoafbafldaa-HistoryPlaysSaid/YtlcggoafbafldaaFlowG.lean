/-
  Append, against abstract values. No condition.
-/
import Derived.Test.YtlcggoafbafldaaFlowF
set_option linter.unusedSectionVars false
set_option linter.unusedVariables false
set_option linter.unusedSimpArgs false
namespace Go.Flow
open Go

def notIntT (P : Program) (t : TypeId) : Bool := match P.underlying t with | some (.int _) => false | some _ => true | none => false

/-- what is appended: a slice's elements, or a string's bytes -/
def srcOf (H : Heap) (x : AV) : Option (List AV) :=
  match x with
  | .v (.string s) => some (s.data.toList.map fun b => .v (.int .u8 b.toNat))
  | x => listOf H x

theorem srcOf_ok {P : Program} {I : Nat → Nat → Prop} {w : World} {H : Heap} {x : AV} {y : Value} {l : List AV} {s : Nat} (h : srcOf H x = some l) (hy : RepT I w x y) (hR : Rel I w H) (hs : sizesAre s l) :
    ∃ news : List Value, Reps I w l news ∧ news.length = l.length * s ∧ (∀ w', (Builtin.lenOf y).run P w' = .ok l.length w') ∧
      ∀ w', (∀ b o, w'.cell? ⟨b, o, none⟩ = w.cell? ⟨b, o, none⟩) → (Builtin.firstCells s l.length y).run P w' = .ok news.toArray w' := by
  unfold srcOf at h
  split at h
  · rename_i st
    cases h
    simp only [RepT, RepV] at hy
    subst hy
    have hr : ∀ q : List UInt8, Reps I w (q.map fun b => AV.v (.int .u8 b.toNat)) (q.map fun b => Value.int .u8 b.toNat) := by
      intro q
      induction q with
      | nil => simp [Reps]
      | cons b q ih => simp only [List.map_cons, Reps]; exact ⟨[_], _, rfl, by simp [Rep, Value.oneCell'], ih⟩
    refine ⟨st.data.toList.map fun b => Value.int .u8 b.toNat, hr _, ?_, fun w' => by simp [Builtin.lenOf], fun w' _ => ?_⟩
    · have := Reps.length _ _ (hr st.data.toList)
      rw [this, sizes_uniform _ s hs]
    · simp only [Builtin.firstCells, Sem.run_pure]
      congr 1
      apply Array.ext'
      have : (st.extract 0 (List.map (fun b => AV.v (.int .u8 b.toNat)) st.data.toList).length) = st := by
        simp
      rw [this]
      simp
  · exact listOf_ok h hy hR hs

theorem run_zeros_none {P : Program} {t : TypeId} (h : notIntT P t = true) (w : World) :
    ((do pure ((← underlying t) matches .int _)) : Sem Bool).run P w = .ok false w := by
  unfold notIntT at h
  split at h <;> try (cases h; done)
  rename_i d hd hu
  rw [Sem.run_bind, run_underlying hu]
  cases d <;> simp
  rename_i k
  exact absurd rfl (hd k)

/-- append where there is room -/
theorem run_append_in {P : Program} {w : World} {t u ty e : TypeId} {s nb b off sLen sCap n : Nat} {y : Value} {cur : Array Value} {T : TypeId} {news : List Value} (he : elemT P t = some (e, s, nb)) (hu : notIntT P u = true)
    (hg : w.heap[b]? = some (.cells cur T (0, 0))) (hlen : (Builtin.lenOf y).run P w = .ok n w) (hf : (Builtin.firstCells s n y).run P w = .ok news.toArray w) (h1 : ∀ u ∈ news, u.oneCell' = true)
    (hroom : sLen + n ≤ sCap) (hfit : off + sLen * s + news.length ≤ cur.size) :
    (Builtin.append_ #[t, u] ty #[.slice (some ⟨b, off, none⟩) sLen sCap, y]).run P w =
      .ok (.slice (some ⟨b, off, none⟩) (sLen + n) sCap) (w.setRow b (cur.toList.take (off + sLen * s) ++ news ++ cur.toList.drop (off + sLen * s + news.length)).toArray) := by
  obtain ⟨i, g1, g2, g3, g4⟩ := elemT_spec he
  have hst := run_storeCells_at P b (off + sLen * s) T news 0 cur w hg (by simpa using hfit) h1
  simp only [Nat.add_zero] at hst
  have hz := run_zeros_none hu w
  unfold notIntT at hu
  split at hu <;> try (cases hu; done)
  rename_i d hd hud
  have hm : (match d with | .int _ => true | _ => false) = false := by cases d <;> first | rfl | exact absurd rfl (hd _)
  simp [Builtin.append_, run_underlying g1, run_underlying hud, run_sizeOf' g2, g3, hm, hlen, hroom, hf, add_none, hst]

/-- append where there is no room -/
theorem run_append_new {P : Program} {w : World} {t u ty e : TypeId} {s nb sLen sCap n : Nat} {x y : Value} {z : Value} {base : Option Addr} {ti : TypeInfo} {olds news : List Value} (he : elemT P t = some (e, s, nb)) (hu : notIntT P u = true)
    (hti : P.info? e = some ti) (hz : ti.zero = some z) (hx : x = .slice base sLen sCap)
    (hlen : (Builtin.lenOf y).run P w = .ok n w) (hfx : (Builtin.firstCells s sLen x).run P w.drew = .ok olds.toArray w.drew) (hf : (Builtin.firstCells s n y).run P w.drew = .ok news.toArray w.drew)
    (hg : sCap < sLen + n) (hbytes : (sLen + n) * nb ≤ 140737488355328) (hnb : 0 < nb) :
    (Builtin.append_ #[t, u] ty #[x, y]).run P w =
      .ok (.slice (some ⟨w.heap.size, 0, none⟩) (sLen + n) (grownCap w (sLen + n) sCap e))
        (w.drew.alloc (.cells (olds.toArray ++ news.toArray ++ Builtin.zeroCells z.cells (grownCap w (sLen + n) sCap e - (sLen + n))) e)) := by
  obtain ⟨i, g1, g2, g3, g4⟩ := elemT_spec he
  have hii : i = ti := by rw [hti] at g2; exact (Option.some.inj g2).symm
  subst hii
  subst hx
  unfold notIntT at hu
  split at hu <;> try (cases hu; done)
  rename_i d hd hud
  have hm : (match d with | .int _ => true | _ => false) = false := by cases d <;> first | rfl | exact absurd rfl (hd _)
  have hsmall : sLen + n ≤ 140737488355328 := Nat.le_trans (Nat.le_mul_of_pos_right _ hnb) hbytes
  have hn : ¬ (sLen + n ≤ sCap) := by omega
  have h63' : ¬ (9223372036854775807 < ((sLen : Int) + (n : Int))) := by omega
  have h48' : ¬ (281474976710656 < Builtin.nextslicecap (sLen + n) sCap * nb) := by have := growslice_fits hg hbytes; omega
  simp [Builtin.append_, run_underlying g1, run_underlying hud, run_sizeOf' g2, g3, g4, hm, hlen, hn, h63', h48', typeInfo, zeroValue, hti, hz, Question.forced, hfx, hf, newRow, grownCap]
  congr 2
  apply Array.ext'
  simp

def aAppend (P : Program) (t u : TypeId) (x y : AV) (H : Heap) (K : AV → Heap → Prop) : Prop :=
  match elemT P t, srcOf H y with
  | some (e, s, nb), some l2 => match zeroA P e with
    | some _ => notIntT P u = true ∧ 0 < s ∧ 0 < nb ∧ sizesAre s l2 ∧
      match x with
      | .v (.slice none 0 0) => (l2 = [] → K (.v (.slice none 0 0)) H) ∧ (l2 ≠ [] → l2.length * nb ≤ 140737488355328 ∧ ∀ b, H b = none → K (.slr b s 0 l2.length) (H.upd b (.arr s l2)))
      | .slr b s' i j => match H b with
        | some (.arr s'' l) => s' = s ∧ s'' = s ∧
          if j = l.length then (j - i + l2.length) * nb ≤ 140737488355328 ∧
            (if i = 0 then ∀ b', (b' = b ∨ H b' = none) → K (.slr b' s 0 (j + l2.length)) ((H.erase b).upd b' (.arr s (l ++ l2)))
             else K (.slr b s i (j + l2.length)) (H.upd b (.arr s (l ++ l2))) ∧ ∀ b', H b' = none → K (.slr b' s 0 (j - i + l2.length)) ((H.erase b).upd b' (.arr s (l.drop i ++ l2))))
          else j + l2.length ≤ l.length ∧ K (.slr b s i (j + l2.length)) (H.upd b (.arr s (l.take j ++ (l2 ++ l.drop (j + l2.length)))))
        | _ => False
      | _ => False
    | none => False
  | _, _ => False

theorem Heap.erase_upd (H : Heap) (b : Nat) (r : Res) : (H.erase b).upd b r = H.upd b r := by
  funext c; simp only [Heap.upd, Heap.erase]; split <;> rfl

theorem drew_ext {I : Nat → Nat → Prop} {w : World} {H : Heap} : Ext I w H I w.drew H :=
  ⟨fun _ _ h => ⟨h, rfl⟩, fun _ _ h => h, Nat.le_refl _, fun _ _ h => ⟨rfl, h, fun _ h => h⟩, rfl, rfl, rfl⟩

theorem drew_rel {I : Nat → Nat → Prop} {w : World} {H : Heap} (h : Rel I w H) : Rel I w.drew H :=
  ⟨fun b r hb => (h.res b r hb).lasts (drew_ext (H := H)).lasts rfl (h.res b r hb).blk.2, h.lt⟩

/-- a resource given up, beside a new one -/
theorem swap_rel {I : Nat → Nat → Prop} {w : World} {H : Heap} {b b' : Nat} {r : Res} (h : Rel I w (H.upd b' r)) (hne : b' ≠ b) : Rel I w ((H.erase b).upd b' r) :=
  h.drop fun c q hc => by
    by_cases e : c = b'
    · subst e; rw [Heap.upd_same] at hc ⊢; exact hc
    · rw [Heap.upd_other _ _ e] at hc ⊢
      by_cases e2 : c = b
      · subst e2; rw [Heap.erase_same] at hc; cases hc
      · rwa [Heap.erase_other _ e2] at hc

theorem swap_ext {I I' : Nat → Nat → Prop} {w w' : World} {H : Heap} {b b' : Nat} {r : Res} (h : Ext I w H I' w' (H.upd b' r)) : Ext I w H I' w' ((H.erase b).upd b' r) :=
  ⟨h.keep, h.shape, h.size, fun c hc hn => by
      obtain ⟨h1, h2, h3⟩ := h.frame c hc hn
      refine ⟨h1, ?_, h3⟩
      by_cases e : c = b'
      · subst e; rw [Heap.upd_same] at h2; cases h2
      · rw [Heap.upd_other _ _ e]
        by_cases e2 : c = b
        · subst e2; exact Heap.erase_same _ _
        · rw [Heap.erase_other _ e2]; exact hn, h.tape, h.os, h.output⟩

/-- the new row's facts -/
theorem grown_ok {P : Program} {I : Nat → Nat → Prop} {w : World} {H : Heap} {e : TypeId} {s need cap : Nat} {l : List AV} {cs : List Value} {zc : Array Value} (hR : Rel I w H) (hr : Reps I w l cs) (hs : sizesAre s l) (hz : zc.size = s) (hl : l.length = need) (hcap : need ≤ cap) :
    let w' := w.drew.alloc (.cells (cs.toArray ++ Builtin.zeroCells zc (cap - need)) e)
    RepT I w' (.slr w.heap.size s 0 need) (.slice (some ⟨w.heap.size, 0, none⟩) need cap) ∧ Rel I w' (H.upd w.heap.size (.arr s l)) ∧ Ext I w H I w' (H.upd w.heap.size (.arr s l)) := by
  have hd := drew_rel hR
  have hnew := new_arr (T := e) (s := s) (l := l) (cs := cs.toArray ++ Builtin.zeroCells zc (cap - need)) (c1 := cs) (c2 := (Builtin.zeroCells zc (cap - need)).toList) hd hs (by simp) (Reps.lasts (drew_ext (H := H)).lasts _ _ hr)
  have hlen := Reps.length _ _ hr
  rw [sizes_uniform _ s hs, hl] at hlen
  refine ⟨rep_slr_new (shape_alloc_new w.drew _ e) ?_ hcap, hnew.1, drew_ext.trans hnew.2⟩
  simp only [Array.size_append, List.size_toArray, size_zeroCells, hz, hlen, ← Nat.add_mul]
  congr 1
  omega

/-- what else is known of the row that append hands back: it is the old one, or its block is of the elements' type -/
def RowKind (P : Program) (t : TypeId) (x x' : AV) (w' : World) : Prop := ∀ b s i j, x' = .slr b s i j → (∃ i0 j0, x = .slr b s i0 j0) ∨ ∃ e s' nb n, elemT P t = some (e, s', nb) ∧ w'.shape? b = some (e, n)

theorem RowKind.same {P : Program} {t : TypeId} {b s i j i' j' : Nat} {w' : World} : RowKind P t (.slr b s i j) (.slr b s i' j') w' := fun b1 s1 i1 j1 h => by cases h; exact .inl ⟨_, _, rfl⟩
theorem RowKind.new {P : Program} {t e : TypeId} {s' nb : Nat} {x : AV} {b s i j n : Nat} {w' : World} (he : elemT P t = some (e, s', nb)) (h : w'.shape? b = some (e, n)) : RowKind P t x (.slr b s i j) w' := fun b1 s1 i1 j1 h1 => by cases h1; exact .inr ⟨_, _, _, _, he, h⟩
theorem RowKind.none {P : Program} {t : TypeId} {x : AV} {v : Value} {w' : World} : RowKind P t x (.v v) w' := fun b1 s1 i1 j1 h1 => by cases h1

theorem aAppend_ok' {P : Program} {t u ty : TypeId} {x y : AV} {xv yv : Value} {I : Nat → Nat → Prop} {w : World} {H : Heap} {K : AV → Heap → Prop} (h : aAppend P t u x y H K) (hx : RepT I w x xv) (hy : RepT I w y yv) (hR : Rel I w H) :
    ∃ v w', (Builtin.append_ #[t, u] ty #[xv, yv]).run P w = .ok v w' ∧ ∃ x' I' H', RepT I' w' x' v ∧ K x' H' ∧ Rel I' w' H' ∧ Ext I w H I' w' H' ∧ RowKind P t x x' w' := by
  unfold aAppend at h
  split at h <;> try exact h.elim
  rename_i e s nb l2 he hl2
  split at h <;> try exact h.elim
  rename_i za hza
  obtain ⟨hu, hs0, hnb, hsz, h⟩ := h
  obtain ⟨ti, z, t1, t2, t3, t4, _⟩ := zeroA_spec hza
  obtain ⟨ti', g1, g2, g3, g4⟩ := elemT_spec he
  have hii : ti' = ti := by rw [t1] at g2; exact (Option.some.inj g2).symm
  subst hii
  have hzs : z.cells.size = s := by rw [← Array.length_toList, Rep.length _ _ (t3 I w), ← t4, g3]
  obtain ⟨news, n1, n2, n3, n4⟩ := srcOf_ok (P := P) hl2 hy hR hsz
  have hone := Reps.one _ _ n1
  split at h
  · -- nil
    simp only [RepT, RepV] at hx
    subst hx
    by_cases h0 : l2 = []
    · have hk := h.1 h0
      subst h0
      refine ⟨.slice none 0 0, w, ?_, _, I, H, by simp [RepT, RepV], hk, hR, Ext.refl, RowKind.none⟩
      have hf := n4 w (fun _ _ => rfl)
      unfold notIntT at hu
      split at hu <;> try (cases hu; done)
      rename_i d hd hud
      have hm : (match d with | .int _ => true | _ => false) = false := by cases d <;> first | rfl | exact absurd rfl (hd _)
      have hlen := n3 w
      simp only [List.length_nil] at hlen hf
      simp [Builtin.append_, run_underlying g1, run_underlying hud, run_sizeOf' g2, g3, hm, hlen, hf]
    · obtain ⟨hb, hk⟩ := h.2 h0
      have hpos : 0 < l2.length := List.length_pos_iff.2 h0
      have hrun := run_append_new (P := P) (ty := ty) (x := .slice none 0 0) (y := yv) (olds := []) (news := news) he hu t1 t2 rfl (n3 w) (by simp [Builtin.firstCells]) (n4 w.drew (fun _ _ => rfl)) (by omega) (by simpa using hb) hnb
      simp only [Nat.zero_add, Array.empty_append] at hrun
      have hgr := grown_ok (P := P) (e := e) (cap := grownCap w l2.length 0 e) hR n1 hsz hzs rfl (grownCap_ge w _ 0 e)
      exact ⟨_, _, by simpa using hrun, _, I, _, hgr.1, hk _ hR.fresh, hgr.2.1, hgr.2.2, RowKind.new he (shape_alloc_new w.drew _ e)⟩
  · -- a row of ours
    rename_i b s' i j
    split at h <;> try exact h.elim
    rename_i s'' l hb
    obtain ⟨e1, e2, h⟩ := h
    subst s'
    subst s''
    have hres := hR.res b _ hb
    have hres := hres
    simp only [ResOk] at hres
    obtain ⟨hnI, cs, T, c1, c2, r1, r2, r3, r4⟩ := hres
    have hxr := hx
    simp only [RepT, RepV, Rep] at hx
    obtain ⟨off, cap, k1, k2, k3, k4, T', n, k5, k6⟩ := hx
    simp only [List.cons.injEq, and_true] at k1
    subst k1
    have hn : n = cs.size := by simp [World.shape?, r1] at k5; exact k5.2.symm
    subst hn
    have hc1 : c1.length = l.length * s := by rw [Reps.length _ _ r4, sizes_uniform _ s r2]
    have hcs : cs.size = c1.length + c2.length := by rw [← Array.length_toList, r3]; simp
    have hll : l.length ≤ i + cap := by
      have : l.length * s ≤ (i + cap) * s := by rw [k6, hcs, hc1]; omega
      exact Nat.le_of_mul_le_mul_right this hs0
    -- in place, whatever lies behind
    have inplace : j ≤ l.length → (j = l.length ∨ j + l2.length ≤ l.length) → j - i + l2.length ≤ cap →
        ∃ w', (Builtin.append_ #[t, u] ty #[.slice (some ⟨b, off, none⟩) (j - i) cap, yv]).run P w = .ok (.slice (some ⟨b, off, none⟩) (j - i + l2.length) cap) w' ∧
          RepT I w' (.slr b s i (j + l2.length)) (.slice (some ⟨b, off, none⟩) (j - i + l2.length) cap) ∧
          Rel I w' (H.upd b (.arr s (l.take j ++ (l2 ++ l.drop (j + l2.length))))) ∧ Ext I w H I w' (H.upd b (.arr s (l.take j ++ (l2 ++ l.drop (j + l2.length))))) := by
      intro hj hj2 hroom
      have hfit0 : (j + l2.length) * s ≤ cs.size := by
        rw [← k6]; exact Nat.mul_le_mul_right _ (by omega)
      have hoff : off + (j - i) * s = j * s ∨ l2 = [] := by
        rcases k4 with k4 | k4
        · left; rw [k4, ← Nat.add_mul]; congr 1; omega
        · right; exact List.eq_nil_of_length_eq_zero (by omega)
      -- the row as it will be
      obtain ⟨a1, a2, f1, f2, f3⟩ := Reps.take r4 j
      obtain ⟨b1, b2, f4, f5, f6⟩ := Reps.take r4 (j + l2.length)
      have ha1 : a1.length = j * s := by
        rw [Reps.length _ _ f2, sizes_uniform _ s (fun q hq => r2 q (List.mem_of_mem_take hq))]; simp [Nat.min_eq_left hj]
      have hshape : ∀ d2 : List Value, (cs.toList.take (j * s) ++ news ++ cs.toList.drop (j * s + news.length)).toArray.size = cs.size := by
        intro _
        simp only [List.size_toArray, List.length_append, List.length_take, List.length_drop, Array.length_toList, n2, ← Nat.add_mul]
        rw [Nat.add_mul] at *
        omega
      have hnewres : ∀ (w' : World), Lasts I w I w' → w'.heap[b]? = some (.cells (cs.toList.take (j * s) ++ news ++ cs.toList.drop (j * s + news.length)).toArray T (0, 0)) →
          ResOk I w' b (.arr s (l.take j ++ (l2 ++ l.drop (j + l2.length)))) := by
        intro w' hl hw
        simp only [ResOk]
        refine ⟨hnI, _, T, a1 ++ (news ++ b2), if j = l.length then c2.drop news.length else c2, hw, ?_, ?_, ?_⟩
        · intro q hq
          rcases List.mem_append.1 hq with hq | hq
          · exact r2 q (List.mem_of_mem_take hq)
          · rcases List.mem_append.1 hq with hq | hq
            · exact hsz q hq
            · exact r2 q (List.mem_of_mem_drop hq)
        · have t1' : cs.toList.take (j * s) = a1 := by
            rw [r3, f1, ← ha1]; simp
          have t2' : cs.toList.drop (j * s + news.length) = b2 ++ (if j = l.length then c2.drop news.length else c2) := by
            rw [r3]
            rcases hj2 with hj2 | hj2
            · rw [if_pos hj2]
              have hb2 : b2 = [] := by
                have := Reps.length _ _ f6
                rw [List.drop_eq_nil_of_le (by omega)] at this
                exact List.eq_nil_of_length_eq_zero (by simpa [AV.sizes] using this)
              rw [hb2, List.nil_append, hj2, ← hc1, ← List.drop_drop]
              simp
            · by_cases hjl : j = l.length
              · have h0 : l2 = [] := List.eq_nil_of_length_eq_zero (by omega)
                have hnews0 : news = [] := by rw [h0] at n1; simpa [Reps] using n1
                have hb2 : b2 = [] := by
                  have := Reps.length _ _ f6
                  rw [List.drop_eq_nil_of_le (by omega)] at this
                  exact List.eq_nil_of_length_eq_zero (by simpa [AV.sizes] using this)
                rw [if_pos hjl, hnews0, hb2, hjl, ← hc1]; simp
              · rw [if_neg hjl]
                have hb1 : b1.length = j * s + news.length := by
                  rw [Reps.length _ _ f5, sizes_uniform _ s (fun q hq => r2 q (List.mem_of_mem_take hq)), n2, ← Nat.add_mul]; simp [Nat.min_eq_left hj2]
                rw [f4, ← hb1, List.append_assoc]; simp
          rw [t1', t2']; simp
        · refine Reps.lasts hl _ _ (Reps.append f2 (Reps.append n1 f6))
      by_cases h0 : l2 = []
      · -- nothing is appended
        have hnews0 : news = [] := by rw [h0] at n1; simpa [Reps] using n1
        have e0 : l.take j ++ (l2 ++ l.drop (j + l2.length)) = l := by rw [h0]; simp
        rw [e0]
        refine ⟨w, ?_, by simpa [h0] using hxr, ?_, ?_⟩
        · have hf := n4 w (fun _ _ => rfl)
          have hlen := n3 w
          unfold notIntT at hu
          split at hu <;> try (cases hu; done)
          rename_i d hd hud
          have hm : (match d with | .int _ => true | _ => false) = false := by cases d <;> first | rfl | exact absurd rfl (hd _)
          rw [h0] at hf hlen
          simp only [List.length_nil] at hf hlen
          simp [Builtin.append_, run_underlying g1, run_underlying hud, run_sizeOf' g2, g3, hm, hlen, hf, h0, k3, hnews0, storeCells]
        · have : H.upd b (.arr s l) = H := by funext c; simp only [Heap.upd]; split <;> simp_all
          rw [this]; exact hR
        · have : H.upd b (.arr s l) = H := by funext c; simp only [Heap.upd]; split <;> simp_all
          rw [this]; exact Ext.refl
      · have hoff' : off + (j - i) * s = j * s := hoff.resolve_right h0
        have hfit : off + (j - i) * s + news.length ≤ cs.size := by rw [hoff', n2, ← Nat.add_mul]; exact hfit0
        have hrun := run_append_in (P := P) (ty := ty) he hu r1 (n3 w) (n4 w (fun _ _ => rfl)) hone hroom hfit
        rw [hoff'] at hrun
        have hone1 : One w b (w.setRow b (cs.toList.take (j * s) ++ news ++ cs.toList.drop (j * s + news.length)).toArray) := One.setRow r1 (hshape [])
        refine ⟨_, hrun, ?_, hone1.rel hnI hR (hnewres _ (hone1.lasts hnI) (setRow_heap w b cs _ T (0, 0) r1)), hone1.ext hnI hb⟩
        simp only [RepT, RepV, Rep]
        refine ⟨off, cap, ?_, by omega, by omega, k4, T', cs.size, ?_, k6⟩
        · have : j + l2.length - i = j - i + l2.length := by omega
          rw [this]
        · rw [hone1.shape]; exact k5
    -- a new row
    have moved : j = l.length → cap < j - i + l2.length → (j - i + l2.length) * nb ≤ 140737488355328 →
        ∃ v w', (Builtin.append_ #[t, u] ty #[.slice (some ⟨b, off, none⟩) (j - i) cap, yv]).run P w = .ok v w' ∧
          RepT I w' (.slr w.heap.size s 0 (j - i + l2.length)) v ∧ Rel I w' (H.upd w.heap.size (.arr s (l.drop i ++ l2))) ∧ Ext I w H I w' (H.upd w.heap.size (.arr s (l.drop i ++ l2))) ∧ ∃ n, w'.shape? w.heap.size = some (e, n) := by
      intro hj hroom hbytes
      have hll2 : listOf H (.slr b s i j) = some (l.drop i) := by
        have : (l.drop i).take (j - i) = l.drop i := List.take_of_length_le (by simp; omega)
        simp only [listOf, hb]
        rw [if_pos ⟨trivial, Nat.le_of_eq hj⟩, this]
      obtain ⟨olds, o1, o2, o3, o4⟩ := listOf_ok (P := P) hll2 hxr hR (fun q hq => r2 q (List.mem_of_mem_drop hq))
      have hdl : (l.drop i).length = j - i := by simp; omega
      have hrun := run_append_new (P := P) (ty := ty) (x := .slice (some ⟨b, off, none⟩) (j - i) cap) (y := yv) (olds := olds) (news := news) he hu t1 t2 rfl (n3 w) (by have := o4 w.drew (fun _ _ => rfl); rwa [hdl] at this) (n4 w.drew (fun _ _ => rfl)) hroom hbytes hnb
      have hgr := grown_ok (P := P) (e := e) (cap := grownCap w (j - i + l2.length) cap e) hR (Reps.append o1 n1) (by
        intro q hq
        rcases List.mem_append.1 hq with hq | hq
        · exact r2 q (List.mem_of_mem_drop hq)
        · exact hsz q hq) hzs (by simp; omega) (grownCap_ge w _ cap e)
      refine ⟨_, _, hrun, ?_⟩
      have ea : (olds ++ news).toArray = olds.toArray ++ news.toArray := by simp
      rw [ea] at hgr
      exact ⟨hgr.1, hgr.2.1, hgr.2.2, _, shape_alloc_new w.drew _ e⟩
    split at h
    · rename_i hj
      obtain ⟨hbytes, h⟩ := h
      have e0 : l.take j ++ (l2 ++ l.drop (j + l2.length)) = l ++ l2 := by rw [hj, List.take_length, List.drop_eq_nil_of_le (by omega)]; simp
      by_cases hroom : j - i + l2.length ≤ cap
      · obtain ⟨w', p1, p2, p3, p4⟩ := inplace (Nat.le_of_eq hj) (.inl hj) hroom
        rw [e0] at p3 p4
        split at h
        · rename_i hi0
          subst hi0
          have hk := h b (.inl rfl)
          rw [Heap.erase_upd] at hk
          exact ⟨_, w', p1, _, I, _, p2, hk, p3, p4, RowKind.same⟩
        · exact ⟨_, w', p1, _, I, _, p2, h.1, p3, p4, RowKind.same⟩
      · obtain ⟨v, w', p1, p2, p3, p4, _, p5⟩ := moved hj (by omega) hbytes
        have hne : w.heap.size ≠ b := fun e => by have := hres.blk.1; omega
        split at h
        · rename_i hi0
          subst hi0
          have hk := h w.heap.size (.inr hR.fresh)
          simp only [List.drop_zero] at p3 p4
          simp only [Nat.sub_zero] at p2
          exact ⟨v, w', p1, _, I, _, p2, hk, swap_rel p3 hne, swap_ext p4, RowKind.new he p5⟩
        · exact ⟨v, w', p1, _, I, _, p2, h.2 _ hR.fresh, swap_rel p3 hne, swap_ext p4, RowKind.new he p5⟩
    · rename_i hj
      obtain ⟨hle, hk⟩ := h
      obtain ⟨w', p1, p2, p3, p4⟩ := inplace (by omega) (.inr hle) (by omega)
      exact ⟨_, w', p1, _, I, _, p2, hk, p3, p4, RowKind.same⟩
  · exact h.elim

theorem aAppend_ok {P : Program} {t u ty : TypeId} {x y : AV} {xv yv : Value} {I : Nat → Nat → Prop} {w : World} {H : Heap} {K : AV → Heap → Prop} (h : aAppend P t u x y H K) (hx : RepT I w x xv) (hy : RepT I w y yv) (hR : Rel I w H) :
    SemOk P (Builtin.append_ #[t, u] ty #[xv, yv]) I w H K := by
  obtain ⟨v, w', h1, x', I', H', h2, h3, h4, h5, _⟩ := aAppend_ok' (ty := ty) h hx hy hR
  exact ⟨v, w', h1, x', I', H', h2, h3, h4, h5⟩

end Go.Flow
