/-
  The other operations; all operations together; regions; functions. No condition.
-/
import Derived.Test.YtlcggoafbafldaaFlowH
import Derived.Lib.UnsafeStr
set_option linter.unusedSectionVars false
set_option linter.unusedVariables false
set_option linter.unusedSimpArgs false
namespace Go.Flow
open Go

def aUn (op : UnOp) (x : AV) (H : Heap) (K : AV → Heap → Prop) : Prop :=
  match x with
  | .v (.bool b) => match op with
    | .not => K (.v (.bool (!b))) H
    | _ => False
  | .v (.int k n) => match op with
    | .neg => K (.v (.int k (k.wrap (0 - n)))) H
    | _ => False
  | _ => False

theorem aUn_ok {P : Program} {op : UnOp} {x : AV} {y : Value} {I : Nat → Nat → Prop} {w : World} {H : Heap} {K : AV → Heap → Prop} (h : aUn op x H K) (hy : RepT I w x y) (hR : Rel I w H) : SemOk P (Op.unary op y) I w H K := by
  unfold aUn at h
  split at h <;> try exact h.elim
  · split at h <;> try exact h.elim
    simp only [RepT, RepV] at hy
    subst hy
    exact .same (by simp [Op.unary]; rfl) (by simp [RepT, RepV]) h hR
  · split at h <;> try exact h.elim
    simp only [RepT, RepV] at hy
    subst hy
    exact .same (by simp [Op.unary, Op.intArith]; rfl) (by simp [RepT, RepV]) h hR

def aPick (c a b : AV) (H : Heap) (K : AV → Heap → Prop) : Prop :=
  match c with
  | .v (.bool t) => (t = true → K a H) ∧ (t = false → K b H)
  | _ => False

def aIndexS (P : Program) (t : TypeId) (x ix : AV) (H : Heap) (K : AV → Heap → Prop) : Prop :=
  match x with
  | .v (.string s) => match ix with
    | .v (.int _ n) => isStrT P t = true ∧ 0 ≤ n ∧ match s.data.toList[n.toNat]? with
      | some b => K (.v (.int .u8 b.toNat)) H
      | none => False
    | _ => False
  | _ => False

theorem isStrT_u {P : Program} {t : TypeId} (h : isStrT P t = true) : P.underlying t = some .string := by
  unfold isStrT at h; split at h <;> simp_all

theorem aIndexS_ok {P : Program} {t : TypeId} {x ix : AV} {y n : Value} {I : Nat → Nat → Prop} {w : World} {H : Heap} {K : AV → Heap → Prop} (h : aIndexS P t x ix H K) (hy : RepT I w x y) (hn : RepT I w ix n) (hR : Rel I w H) :
    SemOk P (Instr.index t y n) I w H K := by
  unfold aIndexS at h
  split at h <;> try exact h.elim
  rename_i s
  split at h <;> try exact h.elim
  rename_i k m
  obtain ⟨ht, h0, h⟩ := h
  split at h <;> try exact h.elim
  rename_i b hb
  simp only [RepT, RepV] at hy hn
  subst hy; subst hn
  have hlt : m.toNat < s.size := by
    rcases Nat.lt_or_ge m.toNat s.size with h' | h'
    · exact h'
    · rw [List.getElem?_eq_none (by simpa using h')] at hb; cases hb
  have hg : s[m.toNat]'hlt = b := by
    rw [List.getElem?_eq_getElem (by simpa using hlt)] at hb
    have := Option.some.inj hb
    rw [← this]; rfl
  refine .same (y := .int .u8 b.toNat) ?_ (by simp [RepT, RepV]) h hR
  rw [run_index_string w t s k m (isStrT_u ht), dif_pos ⟨h0, by omega⟩, hg]

def aExtract (x : AV) (i : Nat) (H : Heap) (K : AV → Heap → Prop) : Prop :=
  match x with
  | .tup l => match l[i]? with
    | some y => K y H
    | none => False
  | _ => False

theorem RepVs.get {I : Nat → Nat → Prop} {w : World} : ∀ {l : List AV} {vs : List Value} {i : Nat} {x : AV}, RepVs I w l vs → l[i]? = some x → ∃ v, vs[i]? = some v ∧ RepV I w x v
  | [], _, _, _, _, h => by simp at h
  | x :: r, vs, 0, y, h, hx => by
    simp only [RepVs] at h
    obtain ⟨v, c2, rfl, h2, _⟩ := h
    simp only [List.getElem?_cons_zero, Option.some.injEq] at hx
    subst hx
    exact ⟨v, rfl, h2⟩
  | x :: r, vs, i + 1, y, h, hx => by
    simp only [RepVs] at h
    obtain ⟨v, c2, rfl, _, h3⟩ := h
    obtain ⟨u, h4, h5⟩ := RepVs.get h3 (by simpa using hx)
    exact ⟨u, by simpa using h4, h5⟩

theorem aExtract_ok {P : Program} {x : AV} {y : Value} {i : Nat} {I : Nat → Nat → Prop} {w : World} {H : Heap} {K : AV → Heap → Prop} (h : aExtract x i H K) (hy : RepT I w x y) (hR : Rel I w H) : SemOk P (Instr.extract y i) I w H K := by
  unfold aExtract at h
  split at h <;> try exact h.elim
  split at h <;> try exact h.elim
  rename_i z hz
  simp only [RepT] at hy
  obtain ⟨vs, rfl, h2⟩ := hy
  obtain ⟨v, h3, h4⟩ := RepVs.get h2 hz
  exact .same (y := v) (by simp [Instr.extract, h3]) (.of_V h4) h hR

def aMakeFunc (fn : Fn) (first caps : List AV) (H : Heap) (K : AV → Heap → Prop) : Prop :=
  match fn with
  | .func f => (∀ x ∈ first, x.solid = true ∧ x.isAgg = false) ∧ (∀ x ∈ caps, x.solid = true ∧ x.isAgg = false) ∧ K (.fn f first caps) H
  | _ => False

inductive TsRep (I : Nat → Nat → Prop) (w : World) : List AV → List Value → Prop
  | nil : TsRep I w [] []
  | cons {x : AV} {y : Value} {r : List AV} {q : List Value} (h : RepT I w x y) (t : TsRep I w r q) : TsRep I w (x :: r) (y :: q)

theorem TsRep.one {I : Nat → Nat → Prop} {w : World} : ∀ {l : List AV} {vs : List Value}, TsRep I w l vs → (∀ x ∈ l, x.solid = true ∧ x.isAgg = false) → Rep1 I w l vs
  | [], _, .nil, _ => by simp [Rep1]
  | x :: r, _, .cons h t, ha => by
    simp only [Rep1]
    obtain ⟨h1, h2⟩ := ha x (by simp)
    refine ⟨_, _, rfl, h2, ?_, t.one fun y hy => ha y (by simp [hy])⟩
    have hv := RepT.V h1 h
    have hc := RepV.cells h1 hv
    cases x <;> simp only [AV.isAgg, AV.solid, Bool.false_eq_true] at h1 h2 <;> simp only [RepV] at hv <;> first
      | exact hv
      | (subst hv; unfold Rep; exact ⟨rfl, h1⟩)
      | (cases h2; done)

theorem TsRep.vs {I : Nat → Nat → Prop} {w : World} : ∀ {l : List AV} {vs : List Value}, TsRep I w l vs → (∀ x ∈ l, ∀ q, x ≠ .tup q) → RepVs I w l vs
  | [], _, .nil, _ => by simp [RepVs]
  | x :: r, _, .cons h t, ha => by
    simp only [RepVs]
    refine ⟨_, _, rfl, ?_, t.vs fun y hy => ha y (by simp [hy])⟩
    have := ha x (by simp)
    cases x <;> first | exact h | (exact absurd rfl (this _))

theorem aMakeFunc_ok {P : Program} {fn : Fn} {first caps : List AV} {fv cv : Array Value} {I : Nat → Nat → Prop} {w : World} {H : Heap} {K : AV → Heap → Prop} (h : aMakeFunc fn first caps H K)
    (h1 : TsRep I w first fv.toList) (h2 : TsRep I w caps cv.toList) (hR : Rel I w H) : SemOk P (Instr.makeFunc fn fv cv) I w H K := by
  unfold aMakeFunc at h
  split at h <;> try exact h.elim
  obtain ⟨a1, a2, hk⟩ := h
  refine .same (by simp [Instr.makeFunc]; rfl) ?_ hk hR
  simp only [RepT, RepV, Rep]
  exact ⟨fv.toList, cv.toList, by simp, h1.one a1, h2.one a2⟩

/-! ### maps -/
def keyK : Value → Nat
  | .int _ _ => 7
  | .string _ => 6
  | .bool _ => 1
  | _ => 0

def sameKey : Value → Value → Bool
  | .int k a, .int k' b => k == k' && decide (a = b)
  | .string a, .string b => decide (a.data.toList = b.data.toList)
  | .bool a, .bool b => a == b
  | _, _ => false

def findA (k : Value) : List (Value × AV) → Option AV
  | [] => none
  | (q, x) :: r => if sameKey k q = true then some x else findA k r

def setA (k : Value) (y : AV) : List (Value × AV) → List (Value × AV)
  | [] => [(k, y)]
  | (q, x) :: r => if sameKey k q = true then (k, y) :: r else (q, x) :: setA k y r

def mapT (P : Program) (t : TypeId) : Option (TypeId × TypeId) :=
  match P.underlying t with
  | some (.map k e) => some (k, e)
  | _ => none

/-- keys of one kind, integers of one width -/
def keysAre (k : Value) (es : List (Value × AV)) : Prop := ∀ e ∈ es, keyK e.1 = keyK k ∧ ∀ j n j' n', k = .int j n → e.1 = .int j' n' → j' = j

def aMakeMap (H : Heap) (K : AV → Heap → Prop) : Prop := ∀ b, H b = none → K (.mp b) (H.upd b (.map []))

theorem aMakeMap_ok {P : Program} {t : TypeId} {I : Nat → Nat → Prop} {w : World} {H : Heap} {K : AV → Heap → Prop} (h : aMakeMap H K) (hR : Rel I w H) : SemOk P (Instr.makeMap t none) I w H K := by
  refine ⟨.map (some w.heap.size), w.alloc (.map #[] 0), by simp [Instr.makeMap], .mp w.heap.size, I, _, by simp [RepT, RepV, Rep], h _ hR.fresh, alloc_rel hR _ _ ?_, alloc_ext hR _ _⟩
  simp only [ResOk]
  exact ⟨hR.fresh', #[], 0, by show (w.heap.push _)[w.heap.size]? = _; simp, by simp [MapOk]⟩

theorem sameNow_eq {d : TypeDesc} {k q : Value} (hd : (keyK k = 7 ∧ ∃ j, d = .int j) ∨ (keyK k = 6 ∧ d = .string) ∨ (keyK k = 1 ∧ d = .bool)) (hq : keyK q = keyK k) (hj : ∀ j n j' n', k = .int j n → q = .int j' n' → j' = j) :
    Instr.sameNow d k q = some (sameKey k q) := by
  rcases hd with ⟨h1, j, rfl⟩ | ⟨h1, rfl⟩ | ⟨h1, rfl⟩
  · cases k <;> simp [keyK] at h1
    cases q <;> simp [keyK] at hq
    rename_i k1 n1 k2 n2
    have := hj k1 n1 k2 n2 rfl rfl
    subst this
    simp [Instr.sameNow, sameKey, beq_dec]
  · cases k <;> simp [keyK] at h1
    cases q <;> simp [keyK] at hq
    rename_i a b
    simp [Instr.sameNow, sameKey, beq_toListBytes, ByteArray.toList_eq, beq_dec]
  · cases k <;> simp [keyK] at h1
    cases q <;> simp [keyK] at hq
    simp [Instr.sameNow, sameKey]

theorem findNow_ok {I : Nat → Nat → Prop} {w : World} {d : TypeDesc} {k : Value} (hd : (keyK k = 7 ∧ ∃ j, d = .int j) ∨ (keyK k = 6 ∧ d = .string) ∨ (keyK k = 1 ∧ d = .bool)) :
    ∀ {es : List (Value × AV)} {l : List MapEntry} {i : Nat}, MapOk I w es l → keysAre k es →
      (findA k es = none ∧ Instr.findNow d k l i = some none) ∨ ∃ x v j, findA k es = some x ∧ RepV I w x v ∧ Instr.findNow d k l i = some (some (i + j, v)) ∧ j < l.length ∧ sameKey k ((l.map (·.key)).getD j (.bool false)) = true ∧
        ∀ y u stamp, RepV I w y u → MapOk I w (setA k y es) ((l.take j) ++ ({ key := k, val := u, born := stamp } :: l.drop (j + 1)))
  | [], l, i, hm, _ => by simp only [MapOk] at hm; subst hm; exact .inl ⟨rfl, rfl⟩
  | (q, x) :: r, l, i, hm, hk => by
    simp only [MapOk] at hm
    obtain ⟨e, es', rfl, h2, h3, h4⟩ := hm
    have hq := hk (q, x) (by simp)
    have hs := sameNow_eq hd hq.1 hq.2
    cases hsk : sameKey k q with
    | true =>
      refine .inr ⟨x, e.val, 0, by simp [findA, hsk], h3, by simp [Instr.findNow, h2, hs, hsk], by simp, by simp [h2, hsk], fun y u stamp hu => ?_⟩
      simp only [setA, hsk, if_true, List.take_zero, List.nil_append, List.drop_succ_cons, List.drop_zero, MapOk]
      exact ⟨_, _, rfl, rfl, hu, h4⟩
    | false =>
      rcases findNow_ok (i := i + 1) hd h4 (fun e he => hk e (by simp [he])) with ⟨g1, g2⟩ | ⟨y, v, j, g1, g2, g3, g4, g5, g6⟩
      · exact .inl ⟨by simp [findA, hsk, g1], by simp [Instr.findNow, h2, hs, hsk, g2]⟩
      · refine .inr ⟨y, v, j + 1, by simp [findA, hsk, g1], g2, by simp [Instr.findNow, h2, hs, hsk, g3]; omega, by simp; omega, by simpa using g5, fun z u stamp hu => ?_⟩
        simp only [setA, hsk, Bool.false_eq_true, if_false, List.take_succ_cons, List.cons_append, List.drop_succ_cons, MapOk]
        exact ⟨e, _, rfl, h2, h3, g6 z u stamp hu⟩

def aLookup (P : Program) (t : TypeId) (m k : AV) (ok : Bool) (H : Heap) (K : AV → Heap → Prop) : Prop :=
  match mapT P t, m, k with
  | some (kt, et), .mp b, .v q => match H b with
    | some (.map es) => kindT P kt = keyK q ∧ keyK q ≠ 0 ∧ keysAre q es ∧ match zeroA P et with
      | some z => match findA q es with
        | some x => K (if ok then .tup [x, .v (.bool true)] else x) H
        | none => K (if ok then .tup [z, .v (.bool false)] else z) H
      | none => False
    | _ => False
  | _, _, _ => False

theorem mapT_u {P : Program} {t k e : TypeId} (h : mapT P t = some (k, e)) : P.underlying t = some (.map k e) := by
  unfold mapT at h; split at h <;> simp_all

theorem kind_desc {P : Program} {kt : TypeId} {q : Value} (h : kindT P kt = keyK q) (h0 : keyK q ≠ 0) :
    ∃ d, P.underlying kt = some d ∧ ((keyK q = 7 ∧ ∃ j, d = .int j) ∨ (keyK q = 6 ∧ d = .string) ∨ (keyK q = 1 ∧ d = .bool)) := by
  cases q <;> simp [keyK] at h h0
  · exact ⟨_, kindT_1 h, .inr (.inr ⟨rfl, rfl⟩)⟩
  · obtain ⟨k, hk⟩ := kindT_7 h; exact ⟨_, hk, .inl ⟨rfl, k, rfl⟩⟩
  · exact ⟨_, kindT_6 h, .inr (.inl ⟨rfl, rfl⟩)⟩

theorem run_checkKey' {P : Program} {kt : TypeId} {q : Value} (h : kindT P kt = keyK q) (h0 : keyK q ≠ 0) (e : Bool) (w : World) : (Instr.checkKey e 10000 kt q).run P w = .ok () w := by
  obtain ⟨d, hu, hd⟩ := kind_desc h h0
  unfold Instr.checkKey
  rw [Sem.run_bind, run_underlying hu]
  rcases hd with ⟨_, j, rfl⟩ | ⟨_, rfl⟩ | ⟨_, rfl⟩ <;> simp

theorem aLookup_ok {P : Program} {t : TypeId} {m k : AV} {mv kv : Value} {ok : Bool} {I : Nat → Nat → Prop} {w : World} {H : Heap} {K : AV → Heap → Prop} (h : aLookup P t m k ok H K) (hm : RepT I w m mv) (hk : RepT I w k kv) (hR : Rel I w H) :
    SemOk P (Instr.lookup t mv kv ok) I w H K := by
  unfold aLookup at h
  split at h <;> try exact h.elim
  rename_i kt et b q hmt
  split at h <;> try exact h.elim
  rename_i es hb
  obtain ⟨h1, h2, h3, h⟩ := h
  split at h <;> try exact h.elim
  rename_i z hz
  simp only [RepT, RepV, Rep, List.cons.injEq, and_true] at hm hk
  subst hm; subst hk
  have hres := hR.res b _ hb
  simp only [ResOk] at hres
  obtain ⟨_, a, n, g1, g2⟩ := hres
  obtain ⟨d, hu, hd⟩ := kind_desc h1 h2
  have hck := fun e => run_checkKey' h1 h2 e w
  have hget : (getObj b).run P w = .ok (.map a n) w := by simp [getObj, Sem.run, g1]
  obtain ⟨i, zv, z1, z2, z3, z4, z5⟩ := zeroA_spec hz
  rcases findNow_ok (i := 0) hd g2 h3 with ⟨f1, f2⟩ | ⟨x, v, j, f1, f2, f3, _⟩
  · rw [f1] at h
    cases ok with
    | false =>
      refine .same (y := zv) ?_ (.of_V (z5 I w)) h hR
      simp [Instr.lookup, run_underlying (mapT_u hmt), hget, hck, Instr.findKey, run_underlying hu, f2, zeroValue, typeInfo, z1, z2]
    | true =>
      refine .same (y := .tuple #[zv, .bool false]) ?_ ?_ h hR
      · simp [Instr.lookup, run_underlying (mapT_u hmt), hget, hck, Instr.findKey, run_underlying hu, f2, zeroValue, typeInfo, z1, z2]
      · simp only [RepT, if_true]
        exact ⟨[zv, .bool false], rfl, by simp only [RepVs]; exact ⟨_, _, rfl, z5 I w, _, _, rfl, by simp [RepV], rfl⟩⟩
  · rw [f1] at h
    cases ok with
    | false =>
      refine .same (y := v) ?_ (.of_V f2) h hR
      simp [Instr.lookup, run_underlying (mapT_u hmt), hget, hck, Instr.findKey, run_underlying hu, f3]
    | true =>
      refine .same (y := .tuple #[v, .bool true]) ?_ ?_ h hR
      · simp [Instr.lookup, run_underlying (mapT_u hmt), hget, hck, Instr.findKey, run_underlying hu, f3]
      · simp only [RepT, if_true]
        exact ⟨[v, .bool true], rfl, by simp only [RepVs]; exact ⟨_, _, rfl, f2, _, _, rfl, by simp [RepV], rfl⟩⟩


def aMapUpdate (P : Program) (t : TypeId) (m k x : AV) (H : Heap) (K : AV → Heap → Prop) : Prop :=
  match mapT P t, m, k with
  | some (kt, _), .mp b, .v q => match H b with
    | some (.map es) => kindT P kt = keyK q ∧ keyK q ≠ 0 ∧ keysAre q es ∧ (∀ l, x ≠ .tup l) ∧ K .any (H.upd b (.map (setA q x es)))
    | _ => False
  | _, _, _ => False

theorem MapOk.push {I : Nat → Nat → Prop} {w : World} {k : Value} {x : AV} {e : MapEntry} (he : e.key = k) (hx : RepV I w x e.val) : ∀ {es : List (Value × AV)} {l : List MapEntry}, MapOk I w es l → findA k es = none → MapOk I w (setA k x es) (l ++ [e])
  | [], l, h, _ => by
    simp only [MapOk] at h
    subst h
    simp only [setA, List.nil_append, MapOk]
    exact ⟨e, [], rfl, he, hx, rfl⟩
  | (q, y) :: r, l, h, hf => by
    simp only [MapOk] at h
    obtain ⟨e0, es', rfl, h2, h3, h4⟩ := h
    simp only [findA] at hf
    split at hf
    · cases hf
    · rename_i hs
      simp only [setA, if_neg hs, List.cons_append, MapOk]
      exact ⟨e0, _, rfl, h2, h3, MapOk.push he hx h4 hf⟩

theorem sameKey_eq {k q : Value} (h : sameKey k q = true) : q = k := by
  cases k <;> cases q <;> simp [sameKey] at h
  · exact congrArg _ h.symm
  · rw [h.1, h.2]
  · rename_i a b
    have : a = b := by cases a; cases b; simp at h; rw [h]
    rw [this]

theorem sameBits_refl {k : Value} (h : keyK k ≠ 0) (n : Nat) : Instr.sameBits n k k = true := by
  cases k <;> simp [keyK] at h <;> simp [Instr.sameBits, beq_toListBytes]

theorem aMapUpdate_ok {P : Program} {t : TypeId} {m k x : AV} {mv kv xv : Value} {I : Nat → Nat → Prop} {w : World} {H : Heap} {K : AV → Heap → Prop} (h : aMapUpdate P t m k x H K) (hm : RepT I w m mv) (hk : RepT I w k kv) (hx : RepT I w x xv) (hR : Rel I w H) :
    ∃ w', (Instr.mapUpdate t mv kv xv).run P w = .ok () w' ∧ ∃ I' H', K .any H' ∧ Rel I' w' H' ∧ Ext I w H I' w' H' := by
  unfold aMapUpdate at h
  split at h <;> try exact h.elim
  rename_i kt et b q hmt
  split at h <;> try exact h.elim
  rename_i es hb
  obtain ⟨h1, h2, h3, ht, h⟩ := h
  simp only [RepT, RepV, Rep, List.cons.injEq, and_true] at hm hk
  subst hm; subst hk
  have hxv : RepV I w x xv := by cases x <;> first | exact hx | exact absurd rfl (ht _)
  have hres := hR.res b _ hb
  have hlt := hres.blk
  simp only [ResOk] at hres
  obtain ⟨hn, a, n, g1, g2⟩ := hres
  obtain ⟨d, hu, hd⟩ := kind_desc h1 h2
  have hck := run_checkKey' h1 h2 false w
  have hget : (getObj b).run P w = .ok (.map a n) w := by simp [getObj, Sem.run, g1]
  have hset : ∀ o, (setObj b o).run P w = .ok () { w with heap := w.heap.setIfInBounds b o } := by intro o; simp [setObj, Sem.run, g1]
  have hone : ∀ a' n', One w b { w with heap := w.heap.setIfInBounds b (.map a' n') } := fun a' n' =>
    ⟨fun c hc => by simp [Array.getElem?_setIfInBounds_ne (Ne.symm hc)], by unfold World.shape?; rw [g1]; simp [hlt.1], by simp, rfl, rfl, rfl⟩
  have hat : ∀ (a' : Array MapEntry) (n' : Nat), ({ w with heap := w.heap.setIfInBounds b (.map a' n') } : World).heap[b]? = some (.map a' n') := fun a' n' => by simp [hlt.1]
  rcases findNow_ok (i := 0) hd g2 h3 with ⟨f1, f2⟩ | ⟨y, v, j, f1, f2, f3, f4, f5, f6⟩
  · refine ⟨_, ?_, I, _, h, (hone (a.push { key := kv, val := xv, born := n }) (n + 1)).rel hn hR ?_, (hone _ _).ext hn hb⟩
    · simp [Instr.mapUpdate, run_underlying (mapT_u hmt), hget, hck, Instr.findKey, run_underlying hu, f2, hset]
    · simp only [ResOk]
      refine ⟨hn, _, _, hat _ _, ?_⟩
      rw [Array.toList_push]
      exact MapOk.push (e := { key := kv, val := xv, born := n }) rfl (RepV.lasts ((hone _ _).lasts hn) hxv) (MapOk.lasts ((hone _ _).lasts hn) g2) f1
  · have hj : j < a.size := by simpa using f4
    have hkey : a[j].key = kv := by
      have : ((a.toList.map (·.key)).getD j (.bool false)) = a[j].key := by simp [List.getD, hj]
      rw [this] at f5
      exact sameKey_eq f5
    refine ⟨_, ?_, I, _, h, (hone (a.modify j fun e => { e with key := kv, val := xv }) n).rel hn hR ?_, (hone _ _).ext hn hb⟩
    · have hstay : (Instr.keyThatStays kv kv).run P w = .ok kv w := by simp [Instr.keyThatStays, sameBits_refl h2]
      simp [Instr.mapUpdate, run_underlying (mapT_u hmt), hget, hck, Instr.findKey, run_underlying hu, f3, hj, hkey, hstay, hset]
    · simp only [ResOk]
      refine ⟨hn, _, _, hat _ _, ?_⟩
      have e0 : (a.modify j fun e => { e with key := kv, val := xv }).toList = a.toList.take j ++ ({ key := kv, val := xv, born := a[j].born } :: a.toList.drop (j + 1)) := by
        rw [Array.toList_modify, List.modify_eq_take_cons_drop (by simpa using hj)]
        simp
      rw [e0]
      exact MapOk.lasts ((hone _ _).lasts hn) (f6 x xv a[j].born hxv)

/-! ### numbers turned -/
def aConv (P : Program) (s d : TypeId) (x : AV) (H : Heap) (K : AV → Heap → Prop) : Prop :=
  match x with
  | .v (.int _ n) => match P.underlying s, P.underlying d with
    | some (.int _), some (.int k) => K (.v (.int k (k.wrap n))) H
    | _, _ => False
  | .v (.string s') => isStrT P s = true ∧ isStrT P d = true ∧ K (.v (.string s')) H
  | _ => False

theorem aConv_ok {P : Program} {s d : TypeId} {x : AV} {y : Value} {I : Nat → Nat → Prop} {w : World} {H : Heap} {K : AV → Heap → Prop} (h : aConv P s d x H K) (hy : RepT I w x y) (hR : Rel I w H) : SemOk P (convert s d y) I w H K := by
  unfold aConv at h
  split at h <;> try exact h.elim
  · rename_i k n
    split at h <;> try exact h.elim
    rename_i k1 k2 h1 h2
    simp only [RepT, RepV] at hy
    subst hy
    refine .same (y := .int k2 (k2.wrap n)) ?_ (by simp [RepT, RepV]) h hR
    simp [convert, run_underlying h1, run_underlying h2, Conv.intToInt]
  · rename_i s'
    obtain ⟨h1, h2, h⟩ := h
    simp only [RepT, RepV] at hy
    subst hy
    refine .same (y := .string s') ?_ (by simp [RepT, RepV]) h hR
    simp [convert, run_underlying (isStrT_u h1), run_underlying (isStrT_u h2)]

def aMinMax (b : Builtin) (x y : AV) (H : Heap) (K : AV → Heap → Prop) : Prop :=
  match x with
  | .v (.int k m) => match y with
    | .v (.int k' n) => k' = k ∧ match b with
      | .max => K (.v (.int k (max m n))) H
      | .min => K (.v (.int k (min m n))) H
      | _ => False
    | _ => False
  | _ => False

/-! ### the full slice, clear -/
def aSlice3 (P : Program) (t : TypeId) (x : AV) (lo hi : Option AV) (m : AV) (H : Heap) (K : AV → Heap → Prop) : Prop :=
  match x with
  | .slr b s' i j => match aBound lo 0, hi, m, elemT P t with
    | some l, some (.v (.int _ h)), .v (.int _ n), some _ => 0 ≤ l ∧ l ≤ h ∧ h ≤ n ∧ n ≤ ((j - i : Nat) : Int) ∧ K .any H
    | _, _, _, _ => False
  | _ => False

theorem aSlice3_ok {P : Program} {t : TypeId} {x m : AV} {y mv : Value} {lo hi : Option AV} {lov hiv : Option Value} {I : Nat → Nat → Prop} {w : World} {H : Heap} {K : AV → Heap → Prop} (h : aSlice3 P t x lo hi m H K)
    (hy : RepT I w x y) (hlo : OptRep I w lo lov) (hhi : OptRep I w hi hiv) (hm : RepT I w m mv) (hR : Rel I w H) : SemOk P (Instr.sliceAt t y lov hiv (some mv)) I w H K := by
  unfold aSlice3 at h
  split at h <;> try exact h.elim
  rename_i b s' i j
  split at h <;> try exact h.elim
  rename_i l k2 hh k3 n e hl1 he
  obtain ⟨h0, h1, h2, h3, hk⟩ := h
  obtain ⟨e, s, nb⟩ := e
  obtain ⟨ti, g1, g2, g3, g4⟩ := elemT_spec he
  simp only [RepT, RepV, Rep] at hy
  obtain ⟨off, cap, q1, q2, q3, q4, T, N, q5, q6⟩ := hy
  simp only [List.cons.injEq, and_true] at q1
  subst q1
  simp only [RepT, RepV] at hm
  subst hm
  cases hiv with
  | none => simp [OptRep] at hhi
  | some hv =>
    simp only [OptRep, RepT, RepV] at hhi
    subst hhi
    have e2 : (lov = none ∧ l.toNat = 0) ∨ ∃ k, lov = some (.int k l) := by
      cases lo with
      | none => cases lov <;> simp [OptRep] at hlo; simp [aBound] at hl1; simp [← hl1]
      | some x =>
        cases lov <;> simp [OptRep] at hlo
        rename_i y
        cases x <;> simp [aBound] at hl1
        rename_i v
        cases v <;> simp at hl1
        rename_i k m
        simp only [RepT, RepV] at hlo
        subst hlo; subst hl1
        exact .inr ⟨k, rfl⟩
    have b1 : ∀ c, (Instr.sliceBound (.int k3 n) cap c).run P w = .ok n.toNat w := fun c => run_sliceBound' (by omega) (by omega)
    have b2 : ∀ c, (Instr.sliceBound (.int k2 hh) n.toNat c).run P w = .ok hh.toNat w := fun c => run_sliceBound' (by omega) (by omega)
    have b3 : ∀ k c, (Instr.sliceBound (.int k l) hh.toNat c).run P w = .ok l.toNat w := fun k c => run_sliceBound' (by omega) (by omega)
    have hb : (Instr.sliceBounds true (j - i) cap lov (some (.int k2 hh)) (some (.int k3 n))).run P w = .ok (l.toNat, hh.toNat, n.toNat) w := by
      unfold Instr.sliceBounds
      rcases e2 with ⟨rfl, e2⟩ | ⟨k, rfl⟩
      · simp [b1, b2, e2]
      · simp [b1, b2, b3]
    refine .same (x := .any) (y := .slice (if n.toNat = l.toNat then some ⟨b, off, none⟩ else (some ⟨b, off, none⟩ : Option Addr).map (·.add (l.toNat * ti.size))) (hh.toNat - l.toNat) (n.toNat - l.toNat)) ?_ (by simp [RepT, RepV]) hk hR
    simp [Instr.sliceAt, Instr.slice, run_underlying g1, hb, run_sizeOf' g2]

theorem zeroCells_list (z : Array Value) (n : Nat) : (Builtin.zeroCells z n).toList = (List.replicate n z.toList).flatten := by
  rw [← range_cells]
  simp [Builtin.zeroCells]

def aClear (P : Program) (t : TypeId) (x : AV) (H : Heap) (K : AV → Heap → Prop) : Prop :=
  match x with
  | .slr b s' i j => match elemT P t with
    | some (e, s, _) => match zeroA P e with
      | some z => match H b with
        | some (.arr s'' l) => s' = s ∧ s'' = s ∧ i ≤ j ∧ j ≤ l.length ∧ K .any (H.upd b (.arr s (l.take i ++ (List.replicate (j - i) z ++ l.drop j))))
        | _ => False
      | none => False
    | none => False
  | _ => False

theorem aClear_ok {P : Program} {t ty : TypeId} {x : AV} {y : Value} {I : Nat → Nat → Prop} {w : World} {H : Heap} {K : AV → Heap → Prop} (h : aClear P t x H K) (hy : RepT I w x y) (hR : Rel I w H) :
    SemOk P (Builtin.clear_ #[t] ty #[y]) I w H K := by
  unfold aClear at h
  split at h <;> try exact h.elim
  rename_i b s' i j
  split at h <;> try exact h.elim
  rename_i e s nb he
  split at h <;> try exact h.elim
  rename_i z hz
  split at h <;> try exact h.elim
  rename_i s'' l hb
  obtain ⟨rfl, rfl, hij, hj, hk⟩ := h
  obtain ⟨ti, g1, g2, g3, g4⟩ := elemT_spec he
  obtain ⟨ti', zv, z1, z2, z3, z4, _⟩ := zeroA_spec hz
  have hti : ti' = ti := by rw [z1] at g2; exact Option.some.inj g2
  subst hti
  simp only [RepT, RepV, Rep] at hy
  obtain ⟨off, cap, q1, q2, q3, q4, T, N, q5, q6⟩ := hy
  simp only [List.cons.injEq, and_true] at q1
  subst q1
  by_cases hn : j - i = 0
  · have hji : j = i := by omega
    subst hji
    have eH : H.upd b (.arr s'' (l.take j ++ (List.replicate (j - j) z ++ l.drop j))) = H := by
      funext c
      by_cases hc : c = b
      · subst hc; rw [Heap.upd_same, hb]; simp
      · rw [Heap.upd_other _ _ hc]
    rw [eH] at hk
    refine .same (x := .any) (y := .tuple #[]) ?_ (by simp [RepT, RepV]) hk hR
    have e0 : j - j = 0 := by omega
    simp [Builtin.clear_, run_underlying g1, e0]
  · have hres := hR.res b _ hb
    have hnI := hres.blk.2
    simp only [ResOk] at hres
    obtain ⟨_, cs, T', c1, c2, r1, r2, r3, r4⟩ := hres
    have hoff : off = i * s'' := by
      rcases q4 with q4 | q4
      · exact q4
      · omega
    have hs' : ∀ m, (∀ x ∈ m, x ∈ l) → AV.sizes m = m.length * s'' := fun m hm => sizes_uniform _ s'' fun x hx => r2 x (hm x hx)
    obtain ⟨d1, d2, f1, f2, f3⟩ := Reps.take r4 j
    obtain ⟨e1, e2, k1, k2, k3⟩ := Reps.take f2 i
    have ei : (l.take j).take i = l.take i := by rw [List.take_take, Nat.min_eq_left hij]
    rw [ei] at k2
    have le1 : e1.length = i * s'' := by
      rw [Reps.length _ _ k2, hs' _ fun x hx => List.mem_of_mem_take hx, List.length_take, Nat.min_eq_left (by omega)]
    have le2 : e2.length = (j - i) * s'' := by
      rw [Reps.length _ _ k3, hs' _ fun x hx => List.mem_of_mem_take (List.mem_of_mem_drop hx), List.length_drop, List.length_take, Nat.min_eq_left (by omega)]
    have hzc := z3 I w
    have hzl : zv.cells.toList.length = s'' := by rw [Rep.length _ _ hzc, ← z4, g3]
    have hcs : cs.toList = e1 ++ (e2 ++ (d2 ++ c2)) := by rw [r3, f1, k1]; simp
    have hnew := Reps.replicate hzc (j - i)
    have hnl : (List.replicate (j - i) zv.cells.toList).flatten.length = (j - i) * s'' := by
      simp [hzl]
    have hone : ∀ v ∈ (List.replicate (j - i) zv.cells.toList).flatten, v.oneCell' = true := Reps.one _ _ hnew
    have hst := run_storeCells_at P b off T' (List.replicate (j - i) zv.cells.toList).flatten 0 cs w r1 (by
      rw [hnl, ← Array.length_toList, hcs]; simp [le1, le2, hoff] <;> omega) hone
    have eW : (cs.toList.take (off + 0) ++ (List.replicate (j - i) zv.cells.toList).flatten ++ cs.toList.drop (off + 0 + (List.replicate (j - i) zv.cells.toList).flatten.length)) = e1 ++ ((List.replicate (j - i) zv.cells.toList).flatten ++ (d2 ++ c2)) := by
      rw [hcs, hnl, Nat.add_zero, hoff, ← le1, List.take_left, List.append_assoc, ← le2, ← List.append_assoc e1 e2, List.drop_append_of_le_length (by simp), List.drop_eq_nil_of_le (by simp)]
      simp
    rw [eW] at hst
    refine ⟨.tuple #[], w.setRow b (e1 ++ ((List.replicate (j - i) zv.cells.toList).flatten ++ (d2 ++ c2))).toArray, ?_, .any, I, _, by simp [RepT, RepV], hk, ?_⟩
    · have hno : ∀ n, j - i = n → n ≠ 0 := fun n h => h ▸ hn
      obtain ⟨n, hn'⟩ : ∃ n, j - i = n + 1 := ⟨j - i - 1, by omega⟩
      have hst' : (storeCells (⟨b, off, none⟩ : Addr) (Builtin.zeroCells zv.cells (j - i)).toList).run P w = .ok () (w.setRow b (e1 ++ ((List.replicate (j - i) zv.cells.toList).flatten ++ (d2 ++ c2))).toArray) := by
        rw [zeroCells_list]
        exact hst
      rw [hn'] at hst' ⊢
      simp [Builtin.clear_, run_underlying g1, zeroValue, typeInfo, z1, z2, hst']
    · have hO : One w b (w.setRow b (e1 ++ ((List.replicate (j - i) zv.cells.toList).flatten ++ (d2 ++ c2))).toArray) := One.setRow r1 (by
        rw [← Array.length_toList (xs := cs), hcs, List.size_toArray]; simp only [List.length_append, le1, le2, hnl])
      refine ⟨hO.rel hnI hR ?_, hO.ext hnI hb⟩
      simp only [ResOk]
      refine ⟨hnI, _, T', e1 ++ ((List.replicate (j - i) zv.cells.toList).flatten ++ d2), c2, setRow_heap w b cs _ T' (0, 0) r1, ?_, by simp, Reps.lasts (hO.lasts hnI) _ _ (Reps.append k2 (Reps.append hnew f3))⟩
      intro q hq
      rcases List.mem_append.1 hq with hq | hq
      · exact r2 q (List.mem_of_mem_take hq)
      · rcases List.mem_append.1 hq with hq | hq
        · rw [(List.mem_replicate.1 hq).2, ← z4, g3]
        · exact r2 q (List.mem_of_mem_drop hq)

/-! ### the bytes of a slice as a string -/
def ptrT (P : Program) (t : TypeId) : Option TypeId := match P.underlying t with | some (.pointer e) => some e | _ => none
theorem ptrT_u {P : Program} {t e : TypeId} (h : ptrT P t = some e) : P.underlying t = some (.pointer e) := by
  unfold ptrT at h; split at h <;> simp_all

def aSliceData (x : AV) (H : Heap) (K : AV → Heap → Prop) : Prop :=
  match x with
  | .v (.slice none _ _) => K (.v (.pointer none)) H
  | .slr b s i j => i < j ∧ K (.bp b (i * s) [i]) H
  | _ => False

theorem aSliceData_ok {P : Program} {ts : Array TypeId} {ty : TypeId} {x : AV} {y : Value} {I : Nat → Nat → Prop} {w : World} {H : Heap} {K : AV → Heap → Prop} (h : aSliceData x H K) (hy : RepT I w x y) (hR : Rel I w H) :
    SemOk P (Builtin.unsafeSliceData_ ts ty #[y]) I w H K := by
  unfold aSliceData at h
  split at h <;> try exact h.elim
  · simp only [RepT, RepV] at hy
    subst hy
    exact .same (Lib.run_unsafeSliceData_nil w ts ty _ _) (by simp [RepT, RepV]) h hR
  · rename_i b s i j
    obtain ⟨hij, hk⟩ := h
    simp only [RepT, RepV, Rep] at hy
    obtain ⟨off, cap, q1, q2, q3, q4, T, N, q5, q6⟩ := hy
    simp only [List.cons.injEq, and_true] at q1
    subst q1
    have hoff : off = i * s := by
      rcases q4 with q4 | q4
      · exact q4
      · omega
    exact .same (Lib.run_unsafeSliceData_row w ts ty _ _ _ (by omega)) (by simp [RepT, RepV, Rep, hoff]) hk hR

def aUnsafeString (P : Program) (pt : TypeId) (x n : AV) (H : Heap) (K : AV → Heap → Prop) : Prop :=
  match x, n with
  | .v (.pointer none), .v (.int .i64 0) => K (.v (.string ⟨#[]⟩)) H
  | .bp g 0 _, .v (.int .i64 n) => match H g with
    | some (.ty T (.arr 1 l)) => ptrT P pt = some T ∧ P.cellsOf T = 1 ∧ ∃ bs : List UInt8, bs ≠ [] ∧ l = bs.map (fun b => .v (.int .u8 b.toNat)) ∧ n = bs.length ∧ bs.length ≤ 9223372036854775807 ∧ K (.v (.string ⟨bs.toArray⟩)) (H.erase g)
    | _ => False
  | _, _ => False

theorem Reps.ints {I : Nat → Nat → Prop} {w : World} : ∀ {l : List UInt8} {cs : List Value}, Reps I w (l.map fun b => .v (.int .u8 b.toNat)) cs → cs = l.map fun b => Value.int .u8 b.toNat
  | [], cs, h => by simpa [Reps] using h
  | b :: r, cs, h => by
    simp only [List.map_cons, Reps, Rep] at h
    obtain ⟨c1, c2, h1, ⟨h2, _⟩, h3⟩ := h
    rw [h1, h2, Reps.ints h3]; simp

theorem freeze_one {w : World} {g n : Nat} {cs : Array Value} {T : TypeId} (hg : w.heap[g]? = some (.cells cs T (0, 0))) : One w g (w.freeze ⟨g, 0, none⟩ n) := by
  unfold World.freeze
  split
  · exact ⟨fun _ _ => rfl, rfl, rfl, rfl, rfl, rfl⟩
  · refine ⟨fun c hc => ?_, ?_, ?_, rfl, rfl, rfl⟩
    · simp [Array.getElem?_modify, Ne.symm hc]
    · simp [World.shape?, Array.getElem?_modify, hg]
    · simp

theorem aUnsafeString_ok {P : Program} {pt it ty : TypeId} {x n : AV} {y m : Value} {I : Nat → Nat → Prop} {w : World} {H : Heap} {K : AV → Heap → Prop} (h : aUnsafeString P pt x n H K) (hy : RepT I w x y) (hm : RepT I w n m) (hR : Rel I w H) :
    SemOk P (Builtin.unsafeString_ #[pt, it] ty #[y, m]) I w H K := by
  unfold aUnsafeString at h
  split at h <;> try exact h.elim
  · simp only [RepT, RepV] at hy hm
    subst hy; subst hm
    exact .same (Lib.run_unsafeString_none w pt it ty none) (by simp [RepT, RepV]; rfl) h hR
  · rename_i g p n
    split at h <;> try exact h.elim
    rename_i T l hg
    obtain ⟨hp, hc, bs, h0, rfl, rfl, hmax, hk⟩ := h
    simp only [RepT, RepV, Rep, List.cons.injEq, and_true] at hy hm
    subst hy; subst hm
    have hres := hR.res g _ hg
    have hnI := hres.blk.2
    simp only [ResOk] at hres
    obtain ⟨⟨_, cs, T', c1, c2, r1, r2, r3, r4⟩, n0, hs⟩ := hres
    have hT : T' = T ∧ n0 = cs.size := by simp [World.shape?, r1] at hs; exact ⟨hs.1, hs.2.symm⟩
    obtain ⟨rfl, rfl⟩ := hT
    have hc1 := Reps.ints r4
    have hrun := Lib.run_unsafeString_row (P := P) w pt it ty T' (ptrT_u hp) hc g cs.size hs bs h0 (by rw [← Array.length_toList, r3, hc1]; simp) hmax (fun j x hx => by
      rw [add_none, World.cell?, r1]
      simp only [Option.isSome_none, Bool.false_eq_true, if_false]
      have hj : j < bs.length := by
        rcases Nat.lt_or_ge j bs.length with h' | h'
        · exact h'
        · simp [List.getElem?_eq_none h'] at hx
      rw [Nat.zero_add, ← Array.getElem?_toList, r3, List.getElem?_append_left (by rw [hc1]; simpa using hj), hc1]
      simp [hx])
    have hone := freeze_one (n := bs.length) r1
    refine ⟨_, _, hrun, .v (.string ⟨bs.toArray⟩), I, H.erase g, by simp [RepT, RepV], hk, ⟨fun c q hcq => ?_, fun c o hI => by rw [hone.size]; exact hR.lt c o hI⟩, ⟨(hone.lasts hnI).keep, (hone.lasts hnI).shape, Nat.le_of_eq hone.size.symm, fun c hcl hcn => ?_, hone.tape, hone.os, hone.output⟩⟩
    · have hcg : c ≠ g := fun e => by subst e; rw [Heap.erase_same] at hcq; cases hcq
      rw [Heap.erase_other _ hcg] at hcq
      exact (hR.res c q hcq).lasts (hone.lasts hnI) (hone.other c hcg) (hR.res c q hcq).blk.2
    · have hcg : c ≠ g := fun e => by subst e; rw [hg] at hcn; cases hcn
      exact ⟨hone.other c hcg, by rw [Heap.erase_other _ hcg]; exact hcn, fun _ h => h⟩

/-! ### all operations -/
def aCall (P : Program) (f : AV) (args : List AV) (H : Heap) (K : AV → Heap → Prop) : Prop :=
  match f with
  | .fn g first caps => (∀ x ∈ args, ∀ q, x ≠ .tup q) ∧ ACalls P g (first ++ (args ++ caps)) H K
  | _ => False

def aBuiltin (P : Program) (b : Builtin) (ts : List TypeId) (args : List AV) (H : Heap) (K : AV → Heap → Prop) : Prop :=
  match ts with
  | [t] => match args with
    | [x] => match b with
      | .len => aLen P t x H K
      | .clear => aClear P t x H K
      | .unsafeSliceData => aSliceData x H K
      | _ => False
    | _ => False
  | [t, u] => match args with
    | [x, y] => match b with
      | .append => aAppend P t u x y H K
      | .max => aMinMax .max x y H K
      | .min => aMinMax .min x y H K
      | .unsafeString => aUnsafeString P t x y H K
      | _ => False
    | _ => False
  | _ => False

def aOp (P : Program) (op : Op) (ev : Operand → AV) (H : Heap) (K : AV → Heap → Prop) : Prop :=
  match op with
  | .move x => K (ev x) H
  | .assign x => K (ev x) H
  | .pick c a b => aPick (ev c) (ev a) (ev b) H K
  | .alloc t => aAlloc P t H K
  | .box _ x => aBox (ev x) H K
  | .build t ps => aBuild P t (ps.toList.map fun p => (p.1, ev p.2)) H K
  | .buildSlice t n ps => aBuildSlice P t n (ps.toList.map fun p => (p.1, ev p.2)) H K
  | .load t a => aLoad P t (ev a) H K
  | .store t a x => aStore P t (ev a) (ev x) H K
  | .nilCheck x => aNilCheck (ev x) H K
  | .binOp op t x y _ => aBin P op t (ev x) (ev y) H K
  | .unOp op _ x => aUn op (ev x) H K
  | .convert s d x => aConv P s d (ev x) H K
  | .makeFunc fn first caps => aMakeFunc fn (first.toList.map ev) (caps.toList.map ev) H K
  | .makeMap _ none => aMakeMap H K
  | .slice t x lo hi none => aSlice P t (ev x) (lo.map ev) (hi.map ev) H K
  | .fieldAddr t x k => aField P t (ev x) k H K
  | .indexAddr t x i => aIndex P t (ev x) (ev i) H K
  | .index t x i => aIndexS P t (ev x) (ev i) H K
  | .lookup t m k ok => aLookup P t (ev m) (ev k) ok H K
  | .mapUpdate t m k x => aMapUpdate P t (ev m) (ev k) (ev x) H K
  | .extract t i => aExtract (ev t) i H K
  | .call c => match c.callee with
    | .value f => aCall P (ev f) (c.args.toList.map ev) H K
    | .builtin b => aBuiltin P b c.argTypes.toList (c.args.toList.map ev) H K
    | _ => False
  | .slice t x lo hi (some m) => aSlice3 P t (ev x) (lo.map ev) (hi.map ev) (ev m) H K
  | _ => False

/-- what is left behind an operation -/
def After (I : Nat → Nat → Prop) (w : World) (H : Heap) (K : AV → Heap → Prop) (dst : Option Tmp) (a : Act) : Act → World → Prop := fun a' w' =>
  ∃ y x I' H', a' = a.put dst y ∧ RepT I' w' x y ∧ K x H' ∧ Rel I' w' H' ∧ Ext I w H I' w' H'

theorem upon_sem {P : Program} {o : Oper} {a : Act} {s : Sem Value} {I : Nat → Nat → Prop} {w : World} {H : Heap} {K : AV → Heap → Prop} {Q : Exit → Act → World → Prop} (h : SemOk P s I w H K)
    (ho : execOp a.eval o = (do pure (.value (← s)))) : o.wp P a w (After I w H K o.dst a) Q := by
  obtain ⟨y, w', hr, x, I', H', h1, h2, h3, h4⟩ := h
  unfold Oper.wp
  rw [ho]
  simp only [Sem.run_bind, hr, Result.andThen_ok, Sem.run_pure, Oper.upon]
  exact ⟨y, x, I', H', rfl, h1, h2, h3, h4⟩

theorem upon_unit {P : Program} {o : Oper} {a : Act} {s : Sem Unit} {I : Nat → Nat → Prop} {w : World} {H : Heap} {K : AV → Heap → Prop} {Q : Exit → Act → World → Prop}
    (h : ∃ w', s.run P w = .ok () w' ∧ ∃ I' H', K .any H' ∧ Rel I' w' H' ∧ Ext I w H I' w' H')
    (ho : execOp a.eval o = (do s; pure .skip)) : o.wp P a w (After I w H K o.dst a) Q := by
  obtain ⟨w', hr, I', H', h2, h3, h4⟩ := h
  unfold Oper.wp
  rw [ho]
  simp only [Sem.run_bind, hr, Result.andThen_ok, Sem.run_pure, Oper.upon]
  exact ⟨undef, .any, I', H', rfl, by simp [RepT, RepV], h2, h3, h4⟩

theorem upon_pure {P : Program} {o : Oper} {a : Act} {y : Value} {x : AV} {I : Nat → Nat → Prop} {w : World} {H : Heap} {K : AV → Heap → Prop} {Q : Exit → Act → World → Prop} (hk : K x H) (hx : RepT I w x y) (hR : Rel I w H)
    (ho : execOp a.eval o = pure (.value y)) : o.wp P a w (After I w H K o.dst a) Q := by
  unfold Oper.wp
  rw [ho]
  simp only [Sem.run_pure, Oper.upon]
  exact ⟨y, x, I, H, rfl, hx, hk, hR, Ext.refl⟩

theorem ts_map {I : Nat → Nat → Prop} {w : World} {ev : Operand → AV} {ρ : Operand → Value} (h : ∀ x, RepT I w (ev x) (ρ x)) : ∀ l : List Operand, TsRep I w (l.map ev) (l.map ρ)
  | [] => .nil
  | x :: r => .cons (h x) (ts_map h r)

theorem parts_map {I : Nat → Nat → Prop} {w : World} {ev : Operand → AV} {ρ : Operand → Value} (h : ∀ x, RepT I w (ev x) (ρ x)) : ∀ l : List (Nat × Operand), PartsRep I w (l.map fun p => (p.1, ev p.2)) (l.map fun p => (p.1, ρ p.2))
  | [] => .nil
  | (i, x) :: r => .cons (h x) (parts_map h r)

theorem opt_map {I : Nat → Nat → Prop} {w : World} {ev : Operand → AV} {ρ : Operand → Value} (h : ∀ x, RepT I w (ev x) (ρ x)) (o : Option Operand) : OptRep I w (o.map ev) (o.map ρ) := by
  cases o with
  | none => trivial
  | some x => exact h x

theorem Rep1.append {I : Nat → Nat → Prop} {w : World} : ∀ {l1 l2 : List AV} {c1 c2 : List Value}, RepVs I w l1 c1 → RepVs I w l2 c2 → RepVs I w (l1 ++ l2) (c1 ++ c2)
  | [], l2, c1, c2, h1, h2 => by simp only [RepVs] at h1; subst h1; simpa using h2
  | x :: r, l2, c1, c2, h1, h2 => by
    simp only [RepVs] at h1
    obtain ⟨y, d, rfl, h3, h4⟩ := h1
    simp only [List.cons_append, RepVs]
    exact ⟨y, _, rfl, h3, Rep1.append h4 h2⟩

theorem Rep1.vs {I : Nat → Nat → Prop} {w : World} : ∀ {l : List AV} {cs : List Value}, Rep1 I w l cs → RepVs I w l cs
  | [], cs, h => by simpa only [Rep1, RepVs] using h
  | x :: r, cs, h => by
    simp only [Rep1] at h
    obtain ⟨y, c2, rfl, ha, h2, h3⟩ := h
    simp only [RepVs]
    exact ⟨y, c2, rfl, RepV.of_cell ha h2, Rep1.vs h3⟩


theorem run_extern {P : Program} {g : FuncId} {fn : Func} {args : Array Value} {w : World} (h1 : P.funcs[g]? = some fn) (h2 : fn.body.isSome = true) (h3 : (fn.name == "runtime.NumGoroutine") = false) :
    (callFunc g args).run P w = .ok (.enter g args) w := by
  have h4 : fn.body.isNone = false := by cases hb : fn.body <;> simp [hb] at h2 ⊢
  unfold callFunc
  simp only [Sem.run_bind, run_program, Result.andThen_ok, h1, h3, h4, Bool.false_eq_true, if_false, Sem.run_pure]

theorem aMinMax_max {x y : AV} {H : Heap} {K : AV → Heap → Prop} (h : aMinMax .max x y H K) : ∃ k m n, x = .v (.int k m) ∧ y = .v (.int k n) ∧ K (.v (.int k (max m n))) H := by
  unfold aMinMax at h
  split at h <;> try exact h.elim
  split at h <;> try exact h.elim
  obtain ⟨rfl, h⟩ := h
  exact ⟨_, _, _, rfl, rfl, h⟩
theorem aMinMax_min {x y : AV} {H : Heap} {K : AV → Heap → Prop} (h : aMinMax .min x y H K) : ∃ k m n, x = .v (.int k m) ∧ y = .v (.int k n) ∧ K (.v (.int k (min m n))) H := by
  unfold aMinMax at h
  split at h <;> try exact h.elim
  split at h <;> try exact h.elim
  obtain ⟨rfl, h⟩ := h
  exact ⟨_, _, _, rfl, rfl, h⟩

theorem aOp_ok {P : Program} {o : Oper} {a : Act} {ρ : Env} {N : Nat} {I : Nat → Nat → Prop} {w : World} {H : Heap} {K : AV → Heap → Prop} {Q : Exit → Act → World → Prop} (h : aOp P o.op ρ.eval H K) (hR : Rel I w H) (hG : Regs I w N ρ a) :
    o.wp P a w (After I w H K o.dst a) Q := by
  have he := hG.eval
  unfold aOp at h
  split at h <;> try exact h.elim
  all_goals rename_i hop
  · exact upon_pure h (he _) hR (by simp only [execOp, hop])
  · exact upon_pure h (he _) hR (by simp only [execOp, hop])
  · -- pick
    rename_i c x y
    unfold aPick at h
    split at h <;> try exact h.elim
    rename_i t ht
    have hc := he c
    rw [ht] at hc
    simp only [RepT, RepV] at hc
    cases t
    · exact upon_pure (y := a.eval y) (h.2 rfl) (he y) hR (by simp [execOp, hop, hc, asBool])
    · exact upon_pure (y := a.eval x) (h.1 rfl) (he x) hR (by simp [execOp, hop, hc, asBool])
  · exact upon_sem (aAlloc_ok h hR) (by simp only [execOp, hop])
  · rename_i t x
    exact upon_sem (aBox_ok (t := t) h (he _) hR) (by simp only [execOp, hop])
  · rename_i t ps
    exact upon_sem (aBuild_ok (ps := ps.map fun p => (p.1, a.eval p.2)) h (by simpa using parts_map he ps.toList) hR) (by simp only [execOp, hop])
  · rename_i t n ps
    exact upon_sem (aBuildSlice_ok (ps := ps.map fun p => (p.1, a.eval p.2)) h (by simpa using parts_map he ps.toList) hR) (by simp only [execOp, hop])
  · exact upon_sem (aLoad_ok h (he _) hR) (by simp only [execOp, hop])
  · exact upon_unit (aStore_ok h (he _) (he _) hR) (by simp only [execOp, hop])
  · -- nilCheck
    rename_i x
    unfold aNilCheck at h
    split at h <;> try exact h.elim
    · rename_i y hy
      have hx := he x
      rw [hy] at hx
      have hx' := hx
      simp only [RepT, RepV, Rep] at hx
      obtain ⟨b, off, cells, k1, _⟩ := hx
      simp only [List.cons.injEq, and_true] at k1
      exact upon_pure (y := a.eval x) h hx' hR (by simp only [execOp, hop, k1])
    · rename_i b off p hy
      have hx := he x
      rw [hy] at hx
      have hx' := hx
      simp only [RepT, RepV, Rep, List.cons.injEq, and_true] at hx
      exact upon_pure (y := a.eval x) h hx' hR (by simp only [execOp, hop, hx])
  · rename_i op t x y yt
    exact upon_sem (aBin_ok (ox := x) (oy := y) h (he _) (he _) hR) (by simp only [execOp, hop])
  · exact upon_sem (aUn_ok h (he _) hR) (by simp only [execOp, hop])
  · exact upon_sem (aConv_ok h (he _) hR) (by simp only [execOp, hop])
  · rename_i fn first caps
    exact upon_sem (aMakeFunc_ok (fv := first.map a.eval) (cv := caps.map a.eval) h (by simpa using ts_map he first.toList) (by simpa using ts_map he caps.toList) hR) (by simp only [execOp, hop])
  · rename_i t
    exact upon_sem (aMakeMap_ok (t := t) h hR) (by simp only [execOp, hop, Option.map_none])
  · exact upon_sem (aSlice_ok h (he _) (opt_map he _) (opt_map he _) hR) (by simp only [execOp, hop, Option.map_none])
  · exact upon_sem (aField_ok h (he _) hR) (by simp only [execOp, hop])
  · exact upon_sem (aIndex_ok h (he _) (he _) hR) (by simp only [execOp, hop])
  · exact upon_sem (aIndexS_ok h (he _) (he _) hR) (by simp only [execOp, hop])
  · exact upon_sem (aLookup_ok h (he _) (he _) hR) (by simp only [execOp, hop])
  · exact upon_unit (aMapUpdate_ok h (he _) (he _) (he _) hR) (by simp only [execOp, hop])
  · exact upon_sem (aExtract_ok h (he _) hR) (by simp only [execOp, hop])
  · -- call
    rename_i c
    split at h <;> try exact h.elim
    all_goals rename_i hcal
    · -- of a function
      rename_i f
      unfold aCall at h
      split at h <;> try exact h.elim
      rename_i g first caps hg
      obtain ⟨ht, ⟨fn, f1, f2, f3⟩, h⟩ := h
      have hf := he f
      rw [hg] at hf
      simp only [RepT, RepV, Rep] at hf
      obtain ⟨c1, c2, k1, k2, k3⟩ := hf
      simp only [List.cons.injEq, and_true] at k1
      have hargs : RepVs I w (first ++ (c.args.toList.map ρ.eval ++ caps)) (c1 ++ (c.args.toList.map a.eval ++ c2)) :=
        Rep1.append (Rep1.vs k2) (Rep1.append ((ts_map he c.args.toList).vs ht) (Rep1.vs k3))
      have hcalls := h I w _ hR hargs
      have hexec : (execOp a.eval o).run P w = .ok (.enter g (c1 ++ (c.args.toList.map a.eval ++ c2)).toArray) w := by
        have e0 : (c1.toArray ++ c.args.map a.eval) ++ c2.toArray = (c1 ++ (c.args.toList.map a.eval ++ c2)).toArray := by
          apply Array.ext'; simp
        simp only [execOp, hop, resolve, hcal, Deferred.ofValue, k1, Sem.run_bind, Sem.run_pure, Result.andThen_ok, invoke, e0]
        exact run_extern f1 f2 f3
      unfold Oper.wp
      rw [hexec]
      simp only [Oper.upon]
      refine hcalls.mono fun e w' ⟨y, e1, I', x, H', hk, hx, hR', hE⟩ => ?_
      subst e1
      exact ⟨y, x, I', H', rfl, hx, hk, hR', hE⟩
    · -- of a builtin
      rename_i b
      unfold aBuiltin at h
      split at h <;> try exact h.elim
      · rename_i t hts
        split at h <;> try exact h.elim
        rename_i x hxs
        obtain ⟨ox, hox⟩ : ∃ ox, c.args = #[ox] := by
          generalize hca : c.args = ca at hxs
          obtain ⟨l⟩ := ca
          match l, hxs with
          | [p], _ => exact ⟨p, rfl⟩
        have hta : c.argTypes = #[t] := by apply Array.ext'; simpa using hts
        rw [hox] at hxs
        simp only [List.map_cons, List.map_nil, List.cons.injEq, and_true] at hxs
        subst hxs
        split at h <;> try exact h.elim
        · exact upon_sem (aLen_ok (ty := o.type) h (he ox) hR) (by simp [execOp, hop, resolve, hcal, invoke, builtin, hox, hta])
        · exact upon_sem (aClear_ok (ty := o.type) h (he ox) hR) (by simp [execOp, hop, resolve, hcal, invoke, builtin, hox, hta])
        · exact upon_sem (aSliceData_ok (ts := #[t]) (ty := o.type) h (he ox) hR) (by simp [execOp, hop, resolve, hcal, invoke, builtin, hox, hta])
      · rename_i t u hts
        split at h <;> try exact h.elim
        rename_i x y hxs
        obtain ⟨ox, oy, hox⟩ : ∃ ox oy, c.args = #[ox, oy] := by
          generalize hca : c.args = ca at hxs
          obtain ⟨l⟩ := ca
          match l, hxs with
          | [p, q], _ => exact ⟨p, q, rfl⟩
        have hta : c.argTypes = #[t, u] := by apply Array.ext'; simpa using hts
        rw [hox] at hxs
        simp only [List.map_cons, List.map_nil, List.cons.injEq, and_true] at hxs
        obtain ⟨rfl, rfl⟩ := hxs
        split at h <;> try exact h.elim
        · exact upon_sem (aAppend_ok (ty := o.type) h (he ox) (he oy) hR) (by simp [execOp, hop, resolve, hcal, invoke, builtin, hox, hta])
        · obtain ⟨k, m, n, e1, e2, hk⟩ := aMinMax_max h
          have h1 := he ox; have h2 := he oy
          rw [e1] at h1; rw [e2] at h2
          simp only [RepT, RepV] at h1 h2
          refine upon_sem (SemOk.same (s := Builtin.max_ c.argTypes o.type #[a.eval ox, a.eval oy]) (y := .int k (max m n)) ?_ (by simp [RepT, RepV]) hk hR) (by simp [execOp, hop, resolve, hcal, invoke, builtin, hox])
          rw [h1, h2, run_max_int2]
          congr 2
          omega
        · obtain ⟨k, m, n, e1, e2, hk⟩ := aMinMax_min h
          have h1 := he ox; have h2 := he oy
          rw [e1] at h1; rw [e2] at h2
          simp only [RepT, RepV] at h1 h2
          refine upon_sem (SemOk.same (s := Builtin.min_ c.argTypes o.type #[a.eval ox, a.eval oy]) (y := .int k (min m n)) ?_ (by simp [RepT, RepV]) hk hR) (by simp [execOp, hop, resolve, hcal, invoke, builtin, hox])
          rw [h1, h2, run_min_int2]
          congr 2
          omega
        · exact upon_sem (aUnsafeString_ok (it := u) (ty := o.type) h (he ox) (he oy) hR) (by simp [execOp, hop, resolve, hcal, invoke, builtin, hox, hta])
  · exact upon_sem (aSlice3_ok h (he _) (opt_map he _) (opt_map he _) (he _) hR) (by simp only [execOp, hop, Option.map_some])

end Go.Flow
