/-
  A row or a variable that is no longer written; strings as lists; the words by which a region is run through. No condition.
-/
import Derived.Test.YtlcggoafbafldaaFlowJ
set_option linter.unusedSectionVars false
set_option linter.unusedVariables false
set_option linter.unusedSimpArgs false
namespace Go.Flow
open Go

/-! ### no longer written -/
def fzSlr (b : Nat) (r : Res) (b' s i j : Nat) : AV :=
  if b' = b then match r with
    | .arr s' l => if s' = s ∧ j ≤ l.length then .sl ((l.drop i).take (j - i)) else .slr b' s i j
    | _ => .slr b' s i j
  else .slr b' s i j

def fzBp (b : Nat) (r : Res) (b' off : Nat) (p : List Nat) : AV :=
  if b' = b then match r.at p with
    | some (o, y) => if o = off then .ip y else .bp b' off p
    | none => .bp b' off p
  else .bp b' off p

mutual
def AV.fz (b : Nat) (r : Res) : AV → AV
  | .slr b' s i j => fzSlr b r b' s i j
  | .bp b' off p => fzBp b r b' off p
  | .agg l => .agg (AV.fzs b r l)
  | .tup l => .tup (AV.fzs b r l)
  | .any => .any
  | .v x => .v x
  | .sl l => .sl l
  | .ip x => .ip x
  | .fn f a c => .fn f a c
  | .mp m => .mp m
def AV.fzs (b : Nat) (r : Res) : List AV → List AV
  | [] => []
  | x :: q => x.fz b r :: AV.fzs b r q
end

def Env.fz (b : Nat) (r : Res) : Env → Env
  | [] => []
  | (t, x) :: q => (t, x.fz b r) :: Env.fz b r q

theorem Env.fz_get (b : Nat) (r : Res) : ∀ (ρ : Env) (t : Nat), (Env.fz b r ρ).get t = (ρ.get t).fz b r
  | [], t => by simp [Env.fz, Env.get, AV.fz]
  | (d, x) :: q, t => by
    simp only [Env.fz, Env.get]
    split
    · rfl
    · exact Env.fz_get b r q t

/-- the cells that never change, and those of one block more -/
def plusI (I : Nat → Nat → Prop) (b : Nat) : Nat → Nat → Prop := fun c o => I c o ∨ c = b

theorem plusI_lasts {I : Nat → Nat → Prop} {w : World} {b : Nat} : Lasts I w (plusI I b) w := ⟨fun _ _ h => ⟨.inl h, rfl⟩, fun _ _ h => h⟩

theorem fzSlr_ok {I : Nat → Nat → Prop} {w : World} {b : Nat} {r : Res} {b' s i j : Nat} {cs : List Value} (hr : ResOk I w b r) (h : Rep I w (.slr b' s i j) cs) : Rep (plusI I b) w (fzSlr b r b' s i j) cs := by
  have keep := Rep.lasts (plusI_lasts (I := I) (w := w) (b := b)) _ _ h
  unfold fzSlr
  split
  · rename_i e
    subst e
    split
    · rename_i s' l
      split
      · rename_i hc
        obtain ⟨rfl, hj⟩ := hc
        simp only [ResOk] at hr
        obtain ⟨_, c, T, c1, c2, r1, r2, r3, r4⟩ := hr
        simp only [Rep] at h ⊢
        obtain ⟨off, cap, k1, k2, k3, k4, T', n, k5, k6⟩ := h
        have hll : ((l.drop i).take (j - i)).length = j - i := by simp; omega
        obtain ⟨d1, d2, f1, f2, f3⟩ := Reps.take r4 i
        obtain ⟨e1, e2, g1, g2, g3⟩ := Reps.take f3 (j - i)
        have hd1 : d1.length = i * s' := by
          rw [Reps.length _ _ f2, sizes_uniform _ s' (fun x hx => r2 x (List.mem_of_mem_take hx))]
          simp [Nat.min_eq_left (show i ≤ l.length by omega)]
        have hu : ∀ x ∈ (l.drop i).take (j - i), x.size = s' := fun x hx => r2 x (List.mem_of_mem_drop (List.mem_of_mem_take hx))
        refine ⟨some ⟨b', off, none⟩, cap, e1, by rw [hll]; exact k1, Reps.lasts plusI_lasts _ _ g2, ⟨s', hu⟩, by rw [hll]; exact k3, ?_⟩
        by_cases he : j - i = 0
        · left; rw [he]; simp
        · right
          have hoff : off = i * s' := by rcases k4 with k4 | k4 <;> omega
          refine ⟨b', off, rfl, fun q hq => ⟨.inr rfl, ?_⟩⟩
          rw [World.cell?, r1]
          simp only [Option.isSome_none, Bool.false_eq_true, if_false]
          rw [← Array.getElem?_toList, r3, f1, g1, List.getElem?_append_left (by simp; omega), List.getElem?_append_right (by omega), List.getElem?_append_left (by omega)]
          congr 1; omega
      · exact keep
    · exact keep
  · exact keep

theorem fzBp_ok {I : Nat → Nat → Prop} {w : World} {b : Nat} {r : Res} {b' off : Nat} {p : List Nat} {cs : List Value} (hr : ResOk I w b r) (h : Rep I w (.bp b' off p) cs) : Rep (plusI I b) w (fzBp b r b' off p) cs := by
  have keep := Rep.lasts (plusI_lasts (I := I) (w := w) (b := b)) _ _ h
  unfold fzBp
  split
  · rename_i e
    subst e
    split
    · rename_i o y hat
      split
      · rename_i ho
        subst ho
        obtain ⟨c, T, c1, d, c2, g1, g2, g3, g4, _⟩ := hr.at hat
        simp only [Rep] at h ⊢
        refine ⟨b', o, d, h, Rep.lasts plusI_lasts _ _ g4, fun q hq => ⟨.inr rfl, ?_⟩⟩
        rw [World.cell?, g1]
        simp only [Option.isSome_none, Bool.false_eq_true, if_false]
        rw [← Array.getElem?_toList, g2, List.getElem?_append_right (by omega), List.getElem?_append_left (by omega)]
        congr 1; omega
      · exact keep
    · exact keep
  · exact keep

mutual
theorem Rep.fz {I : Nat → Nat → Prop} {w : World} {b : Nat} {r : Res} (hr : ResOk I w b r) : ∀ (x : AV) (cs : List Value), Rep I w x cs → Rep (plusI I b) w (x.fz b r) cs
  | .slr b' s i j, cs, h => fzSlr_ok hr h
  | .bp b' off p, cs, h => fzBp_ok hr h
  | .agg l, cs, h => by simp only [AV.fz, Rep] at h ⊢; exact Reps.fz hr l cs h
  | .tup _, cs, h => by simp only [Rep] at h
  | .any, cs, h => Rep.lasts plusI_lasts _ _ h
  | .v _, cs, h => Rep.lasts plusI_lasts _ _ h
  | .sl _, cs, h => Rep.lasts plusI_lasts _ _ h
  | .ip _, cs, h => Rep.lasts plusI_lasts _ _ h
  | .fn _ _ _, cs, h => Rep.lasts plusI_lasts _ _ h
  | .mp _, cs, h => Rep.lasts plusI_lasts _ _ h
theorem Reps.fz {I : Nat → Nat → Prop} {w : World} {b : Nat} {r : Res} (hr : ResOk I w b r) : ∀ (l : List AV) (cs : List Value), Reps I w l cs → Reps (plusI I b) w (AV.fzs b r l) cs
  | [], cs, h => by simpa only [AV.fzs, Reps] using h
  | x :: q, cs, h => by
    simp only [AV.fzs, Reps] at h ⊢
    obtain ⟨c1, c2, h1, h2, h3⟩ := h
    exact ⟨c1, c2, h1, Rep.fz hr x c1 h2, Reps.fz hr q c2 h3⟩
end

theorem RepV.fz {I : Nat → Nat → Prop} {w : World} {b : Nat} {r : Res} (hr : ResOk I w b r) {x : AV} {y : Value} (h : RepV I w x y) : RepV (plusI I b) w (x.fz b r) y := by
  cases x with
  | slr b' s i j =>
    simp only [RepV] at h
    have := fzSlr_ok hr h
    simp only [AV.fz]
    exact RepV.of_cell (by unfold fzSlr; (repeat' split) <;> rfl) this
  | bp b' off p =>
    simp only [RepV] at h
    have := fzBp_ok hr h
    simp only [AV.fz]
    exact RepV.of_cell (by unfold fzBp; (repeat' split) <;> rfl) this
  | agg l =>
    simp only [RepV, AV.fz] at h ⊢
    obtain ⟨cs, h1, h2⟩ := h
    exact ⟨cs, h1, Reps.fz hr l cs h2⟩
  | tup l => simp only [RepV] at h
  | _ => exact RepV.lasts plusI_lasts h

theorem RepVs.fz {I : Nat → Nat → Prop} {w : World} {b : Nat} {r : Res} (hr : ResOk I w b r) : ∀ {l : List AV} {vs : List Value}, RepVs I w l vs → RepVs (plusI I b) w (AV.fzs b r l) vs
  | [], vs, h => by simpa only [AV.fzs, RepVs] using h
  | x :: q, vs, h => by
    simp only [AV.fzs, RepVs] at h ⊢
    obtain ⟨y, c2, h1, h2, h3⟩ := h
    exact ⟨y, c2, h1, RepV.fz hr h2, RepVs.fz hr h3⟩

theorem RepT.fz {I : Nat → Nat → Prop} {w : World} {b : Nat} {r : Res} (hr : ResOk I w b r) {x : AV} {y : Value} (h : RepT I w x y) : RepT (plusI I b) w (x.fz b r) y := by
  cases x with
  | tup l =>
    simp only [RepT, AV.fz] at h ⊢
    obtain ⟨vs, h1, h2⟩ := h
    exact ⟨vs, h1, RepVs.fz hr h2⟩
  | _ => exact .of_V (RepV.fz hr h)

theorem freeze_rel {I : Nat → Nat → Prop} {w : World} {H : Heap} {b : Nat} {r : Res} (hR : Rel I w H) (hb : H b = some r) : Rel (plusI I b) w (H.erase b) where
  res c q hc := by
    by_cases e : c = b
    · subst e; rw [Heap.erase_same] at hc; cases hc
    · rw [Heap.erase_other _ e] at hc
      exact (hR.res c q hc).lasts plusI_lasts rfl (fun o h => h.elim ((hR.res c q hc).blk.2 o) e)
  lt c o h := h.elim (hR.lt c o) (fun e => by rw [e]; exact (hR.res b r hb).blk.1)

theorem freeze_ext {I : Nat → Nat → Prop} {w : World} {H : Heap} {b : Nat} {r : Res} (hb : H b = some r) : Ext I w H (plusI I b) w (H.erase b) :=
  ⟨fun _ _ h => ⟨.inl h, rfl⟩, fun _ _ h => h, Nat.le_refl _, fun c hc hn => by
    have hne : c ≠ b := fun e => by rw [e, hb] at hn; cases hn
    exact ⟨rfl, by rw [Heap.erase_other _ hne]; exact hn, fun o h => h.elim id (fun e => absurd e hne)⟩, rfl, rfl, rfl⟩

/-- from here on a resource is only read -/
theorem ACode.freeze {P : Program} {N : Nat} {c : Code} {Q : Exit → Env → Heap → Prop} {ρ : Env} {H : Heap} (b : Nat) {r : Res} (hb : H b = some r) (h : ACode P N c Q (Env.fz b r ρ) (H.erase b)) : ACode P N c Q ρ H := by
  intro I w a hR hG
  refine Go.wp_mono (h (plusI I b) w a (freeze_rel hR hb) ⟨hG.defers, hG.size, fun t => ?_⟩) ?_
  · rw [Env.fz_get]; exact RepT.fz (hR.res b r hb) (hG.rep t)
  · rintro e a' w' ⟨I', ρ', H', q, r1, r2, x1⟩
    exact ⟨I', ρ', H', q, r1, r2, (freeze_ext hb).trans x1⟩

/-- what a call hands back is only read from here on -/
theorem ACalls.mono {P : Program} {f : FuncId} {args : List AV} {H : Heap} {K K' : AV → Heap → Prop} (h : ACalls P f args H K) (hk : ∀ x H, K x H → K' x H) : ACalls P f args H K' :=
  ⟨h.1, fun I w vs hR hv => (h.2 I w vs hR hv).mono fun e w' ⟨y, e1, I', x, H', k, r⟩ => ⟨y, e1, I', x, H', hk _ _ k, r⟩⟩

theorem ACalls.shift {P : Program} {f : FuncId} {args : List AV} {H : Heap} {K K' : AV → Heap → Prop} (h : ACalls P f args H K)
    (hk : ∀ x H, K x H → K' x H ∨ ∃ b r, H b = some r ∧ K' (x.fz b r) (H.erase b)) : ACalls P f args H K' :=
  ⟨h.1, fun I w vs hR hv => (h.2 I w vs hR hv).mono fun e w' ⟨y, e1, I', x, H', k, r1, r2, r3⟩ => by
    rcases hk x H' k with hk | ⟨b, r, hb, hk⟩
    · exact ⟨y, e1, I', x, H', hk, r1, r2, r3⟩
    · exact ⟨y, e1, plusI I' b, _, _, hk, RepT.fz (r2.res b r hb) r1, freeze_rel r2 hb, r3.trans (freeze_ext hb)⟩⟩

/-- a call may be made with fewer resources: what it leaves, and the others as they were -/
def Heap.join (H G : Heap) : Heap := fun b => match H b with | some r => some r | none => G b

theorem Heap.upd_upd (H : Heap) (b : Nat) (r r' : Res) : (H.upd b r).upd b r' = H.upd b r' := by
  funext c; simp only [Heap.upd]; split <;> rfl
theorem Heap.erase_upd_same (H : Heap) (b : Nat) (r : Res) (h : H b = none) : (H.upd b r).erase b = H := by
  funext c; simp only [Heap.upd, Heap.erase]; split
  · rename_i e; rw [e, h]
  · rfl
theorem Heap.erase_erase (H : Heap) (b : Nat) : (H.erase b).erase b = H.erase b := by
  funext c; simp only [Heap.erase]; split <;> rfl

/-! ### strings as lists -/
def mkS (l : List UInt8) : ByteArray := ⟨l.toArray⟩
theorem mkS_list (l : List UInt8) : (mkS l).data.toList = l := by simp [mkS]
theorem mkS_size (l : List UInt8) : (mkS l).size = l.length := by simp [mkS, ByteArray.size]
theorem mkS_data (s : ByteArray) : mkS s.data.toList = s := by cases s; simp [mkS]
theorem mk_mkS (a : Array UInt8) : ByteArray.mk a = mkS a.toList := by simp [mkS]
theorem mkS_extract (l : List UInt8) (i j : Nat) : (mkS l).extract i j = mkS ((l.take j).drop i) := by
  apply ByteArray.ext
  apply Array.ext'
  simp only [ByteArray.data_extract, Array.toList_extract, mkS_list, List.extract_eq_take_drop]
  rw [← List.drop_take]
theorem mkS_append (a b : List UInt8) : mkS a ++ mkS b = mkS (a ++ b) := by
  apply ByteArray.ext
  apply Array.ext'
  simp [mkS, ByteArray.data_append]
theorem mkS_inj {a b : List UInt8} : (mkS a = mkS b) = (a = b) := by
  apply propext
  exact ⟨fun h => by rw [← mkS_list a, h, mkS_list], fun h => by rw [h]⟩

def str (l : List UInt8) : AV := .v (.string (mkS l))
def int (n : Int) : AV := .v (.int .i64 n)
def boo (b : Bool) : AV := .v (.bool b)

theorem wrap_i64 {n : Int} (h1 : -9223372036854775808 ≤ n) (h2 : n ≤ 9223372036854775807) : IntKind.i64.wrap n = n := IntWalk.i64_in n ⟨h1, h2⟩

theorem aPick_tt {a b : AV} {H : Heap} {K : AV → Heap → Prop} : aPick (.v (.bool true)) a b H K = K a H := by simp [aPick]
theorem aPick_ff {a b : AV} {H : Heap} {K : AV → Heap → Prop} : aPick (.v (.bool false)) a b H K = K b H := by simp [aPick]
theorem aPick_split {t : Bool} {a b : AV} {H : Heap} {K : AV → Heap → Prop} (h1 : t = true → K a H) (h2 : t = false → K b H) : aPick (.v (.bool t)) a b H K := ⟨h1, h2⟩

theorem ne_of_some {H : Heap} {b c : Nat} {r : Res} (hb : H b = none) (hc : H c = some r) : c ≠ b := fun e => by rw [e, hb] at hc; cases hc

attribute [go_sem] aOps_nil aOps_plain aOps_guard aRest_eq aRun_eq aSkip_eq aGuard_tt aGuard_tf aGuard_ft aGuard_ff aYield aOp aPick_tt aPick_ff aAlloc aBox aBuild aBuildSlice aLoad aStore aNilCheck aBin aUn aConv aMakeFunc aMakeMap aSlice aField aIndex aIndexS aLookup aMapUpdate aExtract aCall aBuiltin aLen aMinMax aClear aSlice3 aSliceData
  Env.get Env.put Env.eval Env.keep AV.at AV.atL AV.put AV.putL Res.at Res.put AV.size AV.sizes AV.isAgg AV.fits AV.solid Heap.upd_same Heap.erase_same intBin strBin eqRes eqParts kindsOf untup resAV retQ_ret retQ_normal seqQ_normal seqQ_ret seqQ_exit blockQ_normal blockQ_ret blockQ_exit argEnv sizesAre_nil sizesAre_cons aBound srcOf listOf setParts partsOk
  Value.oneCell' Heap.upd_upd decide_true decide_false mkS_list mkS_size mk_mkS mkS_extract mkS_append str int boo AV.fz AV.fzs Env.fz fzSlr fzBp findA setA sameKey keyK
  List.map_cons List.map_nil List.length_map List.cons_append List.nil_append Option.map_none Option.map_some List.getElem?_cons_zero List.getElem?_cons_succ List.take_succ_cons List.take_zero and_true true_and List.length_cons List.length_nil Option.bind_some List.getElem?_toArray Int.toNat_natCast List.getElem?_map Nat.zero_add Nat.add_zero List.set_cons_zero List.set_cons_succ List.replicate_succ List.replicate_zero Nat.sub_zero List.drop_zero beq_self_eq_true Bool.true_and Bool.and_true

end Go.Flow
