/-
  Operators, fields, maps, against abstract values. No condition.
-/
import Derived.Test.YtlcggoafbafldaaFlowG
import Derived.WalkSpells
import Derived.Laws.Pointers
set_option linter.unusedSectionVars false
set_option linter.unusedVariables false
set_option linter.unusedSimpArgs false
namespace Go.Flow
open Go

def intBin (op : BinOp) (k k' : IntKind) (a b : Int) : Option Value :=
  match op with
  | .shl => if 0 ≤ b then some (.int k (k.wrap (a * 2 ^ (min b.toNat k.bits)))) else none
  | .shr => if 0 ≤ b then some (.int k (a.fdiv (2 ^ (min b.toNat k.bits)))) else none
  | .add => if k = k' then some (.int k (k.wrap (a + b))) else none
  | .sub => if k = k' then some (.int k (k.wrap (a - b))) else none
  | .mul => if k = k' then some (.int k (k.wrap (a * b))) else none
  | .quo => if k = k' then if b = 0 then none else some (.int k (k.wrap (a.tdiv b))) else none
  | .rem => if k = k' then if b = 0 then none else some (.int k (a.tmod b)) else none
  | .eql => if k = k' then some (.bool (decide (a = b))) else none
  | .neq => if k = k' then some (.bool (!decide (a = b))) else none
  | .lss => if k = k' then some (.bool (decide (a < b))) else none
  | .leq => if k = k' then some (.bool (decide (a ≤ b))) else none
  | .gtr => if k = k' then some (.bool (decide (b < a))) else none
  | .geq => if k = k' then some (.bool (decide (b ≤ a))) else none
  | _ => none

def strBin (op : BinOp) (a b : ByteArray) : Option Value :=
  match op with
  | .add => if a.size + b.size ≤ 9223372036854775807 then some (.string (a ++ b)) else none
  | .eql => some (.bool (decide (a.data.toList = b.data.toList)))
  | .neq => some (.bool (!decide (a.data.toList = b.data.toList)))
  | .lss => some (.bool (Op.bytesLess a.data.toList b.data.toList))
  | .gtr => some (.bool (!(Op.bytesLess a.data.toList b.data.toList || decide (a.data.toList = b.data.toList))))
  | .leq => some (.bool (Op.bytesLess a.data.toList b.data.toList || decide (a.data.toList = b.data.toList)))
  | .geq => some (.bool (!Op.bytesLess a.data.toList b.data.toList))
  | _ => none

def eqRes (op : BinOp) (r : Bool) : Option Value :=
  match op with
  | .eql => some (.bool r)
  | .neq => some (.bool (!r))
  | _ => none

def kindT (P : Program) (t : TypeId) : Nat :=
  match P.underlying t with
  | some .bool => 1
  | some (.pointer _) => 2
  | some (.slice _) => 3
  | some (.map _ _) => 4
  | some (.func _ _ _) => 5
  | some .string => 6
  | some (.int _) => 7
  | _ => 0

/-- parts of a struct, one by one: are they the same? -/
def eqParts : List AV → List AV → Option Bool
  | [], [] => some true
  | .v (.int k a) :: r, .v (.int k' b) :: q => if k = k' then (eqParts r q).map fun c => decide (a = b) && c else none
  | .v (.string a) :: r, .v (.string b) :: q => (eqParts r q).map fun c => decide (a.data.toList = b.data.toList) && c
  | .v (.bool a) :: r, .v (.bool b) :: q => (eqParts r q).map fun c => (a == b) && c
  | _, _ => none

/-- a struct whose parts are plain, each in a cell of its own -/
def plainFields (P : Program) : List Field → Nat → Option (List Nat)
  | [], _ => some []
  | f :: r, o => if f.name ≠ "_" ∧ f.offset = o ∧ (kindT P f.type = 1 ∨ kindT P f.type = 6 ∨ kindT P f.type = 7) then (plainFields P r (o + 1)).map (kindT P f.type :: ·) else none

def plainT (P : Program) (t : TypeId) : Option (List Nat) :=
  match P.underlying t with
  | some (.struct fs) => if P.stoodInHeld t = false ∧ P.eqGuardType P.depth t = false then plainFields P fs.toList 0 else none
  | _ => none

def kindsOf : List AV → List Nat
  | [] => []
  | .v (.int _ _) :: r => 7 :: kindsOf r
  | .v (.string _) :: r => 6 :: kindsOf r
  | .v (.bool _) :: r => 1 :: kindsOf r
  | _ :: r => 0 :: kindsOf r

def aBin (P : Program) (op : BinOp) (t : TypeId) (x y : AV) (H : Heap) (K : AV → Heap → Prop) : Prop :=
  match x with
  | .v (.int k a) => match y with
    | .v (.int k' b) => match intBin op k k' a b with
      | some r => K (.v r) H
      | none => False
    | _ => False
  | .v (.string a) => match y with
    | .v (.string b) => match strBin op a b with
      | some r => K (.v r) H
      | none => False
    | _ => False
  | .v (.bool a) => match y with
    | .v (.bool b) => kindT P t = 1 ∧ match eqRes op (a == b) with
      | some r => K (.v r) H
      | none => False
    | _ => False
  | .v (.pointer none) => match y with
    | .v (.pointer none) => kindT P t = 2 ∧ match eqRes op true with
      | some r => K (.v r) H
      | none => False
    | _ => False
  | .ip _ => match y with
    | .v (.pointer none) => kindT P t = 2 ∧ match eqRes op false with
      | some r => K (.v r) H
      | none => False
    | _ => False
  | .bp _ _ _ => match y with
    | .v (.pointer none) => kindT P t = 2 ∧ match eqRes op false with
      | some r => K (.v r) H
      | none => False
    | _ => False
  | .v (.slice none _ _) => match y with
    | .v (.slice none _ _) => kindT P t = 3 ∧ match eqRes op true with
      | some r => K (.v r) H
      | none => False
    | _ => False
  | .slr _ _ _ _ => match y with
    | .v (.slice none _ _) => kindT P t = 3 ∧ match eqRes op false with
      | some r => K (.v r) H
      | none => False
    | _ => False
  | .sl l => match y with
    | .v (.slice none _ _) => kindT P t = 3 ∧ ∀ c : Bool, (c = true → l = []) → match eqRes op c with
      | some r => K (.v r) H
      | none => False
    | _ => False
  | .mp _ => match y with
    | .v (.map none) => kindT P t = 4 ∧ match eqRes op false with
      | some r => K (.v r) H
      | none => False
    | _ => False
  | .agg l => match y with
    | .agg q => plainT P t = some (kindsOf l) ∧ kindsOf q = kindsOf l ∧ match eqParts l q with
      | some c => match eqRes op c with
        | some r => K (.v r) H
        | none => False
      | none => False
    | _ => False
  | _ => False

theorem kindT_1 {P : Program} {t : TypeId} (h : kindT P t = 1) : P.underlying t = some .bool := by
  unfold kindT at h; split at h <;> simp_all
theorem kindT_2 {P : Program} {t : TypeId} (h : kindT P t = 2) : ∃ e, P.underlying t = some (.pointer e) := by
  unfold kindT at h; split at h <;> simp_all
theorem kindT_3 {P : Program} {t : TypeId} (h : kindT P t = 3) : ∃ e, P.underlying t = some (.slice e) := by
  unfold kindT at h; split at h <;> simp_all
theorem kindT_4 {P : Program} {t : TypeId} (h : kindT P t = 4) : ∃ k e, P.underlying t = some (.map k e) := by
  unfold kindT at h; split at h <;> simp_all
theorem kindT_6 {P : Program} {t : TypeId} (h : kindT P t = 6) : P.underlying t = some .string := by
  unfold kindT at h; split at h <;> simp_all
theorem kindT_7 {P : Program} {t : TypeId} (h : kindT P t = 7) : ∃ k, P.underlying t = some (.int k) := by
  unfold kindT at h; split at h <;> simp_all

theorem beq_dec {α : Type} [BEq α] [LawfulBEq α] [DecidableEq α] (a b : α) : (a == b) = decide (a = b) := by
  by_cases e : a = b <;> simp [e]

theorem run_intBin {P : Program} {op : BinOp} {k k' : IntKind} {a b : Int} {r : Value} {t : TypeId} {x y : Operand} (h : intBin op k k' a b = some r) (w : World) :
    ((do eqGuard op t x y (.int k a) (.int k' b); binOp op t (.int k a) (.int k' b)) : Sem Value).run P w = .ok r w := by
  cases op <;> simp only [intBin] at h <;> (try (cases h; done)) <;> split at h <;> (try (cases h; done)) <;> (try subst k') <;> (try split at h) <;> (try (cases h; done)) <;> cases h <;>
    simp_all [eqGuard_at_int, binOp, Op.intArith, Op.intCmp, Op.intDiv, Op.shift, Int.not_lt]
  all_goals first
    | (intro hlt; omega)
    | (by_cases e : a = b <;> simp [e])

theorem run_strBin {P : Program} {op : BinOp} {a b : ByteArray} {r : Value} {t : TypeId} {x y : Operand} (h : strBin op a b = some r) (w : World) :
    ((do eqGuard op t x y (.string a) (.string b); binOp op t (.string a) (.string b)) : Sem Value).run P w = .ok r w := by
  have hb : ∀ u v : List UInt8, (u == v) = decide (u = v) := fun u v => by
    by_cases e : u = v <;> simp [e]
  cases op <;> simp only [strBin] at h <;> (try (cases h; done)) <;> (try split at h) <;> (try (cases h; done)) <;> cases h <;>
    simp [eqGuard_at_string, binOp, Op.stringOp, ByteArray.toList_eq, hb]
  all_goals omega


theorem run_eqNil {P : Program} {op : BinOp} {t : TypeId} {x y : Operand} {u v : Value} {r : Value} {c : Bool} (h : eqRes op c = some r)
    (hg : eqGuard op t x y u v = pure ()) (he : ∀ w, (binOp .eql t u v).run P w = .ok (.bool c) w) (hn : ∀ w, (binOp .neq t u v).run P w = .ok (.bool (!c)) w) (w : World) :
    ((do eqGuard op t x y u v; binOp op t u v) : Sem Value).run P w = .ok r w := by
  cases op <;> simp only [eqRes] at h <;> (try (cases h; done)) <;> cases h <;> simp [hg, he, hn]

theorem run_eqFields {P : Program} {I : Nat → Nat → Prop} {w : World} : ∀ {fs : List Field} {o : Nat} {l q : List AV} {pre pre2 c1 c2 : List Value} {c : Bool} (d : Nat),
    plainFields P fs o = some (kindsOf l) → kindsOf q = kindsOf l → eqParts l q = some c → Reps I w l c1 → Reps I w q c2 → pre.length = o → pre2.length = o →
    (Op.eqFields (d + 1) (pre ++ c1).toArray (pre2 ++ c2).toArray fs).run P w = .ok c w
  | [], o, l, q, pre, pre2, c1, c2, c, d, h1, h2, h3, h4, h5, h6, h7 => by
    simp only [plainFields, Option.some.injEq] at h1
    have hl : l = [] := by cases l with
      | nil => rfl
      | cons x r =>
        exfalso
        unfold kindsOf at h1
        split at h1 <;> simp_all
    subst hl
    cases q with
    | nil => simp only [eqParts, Option.some.injEq] at h3; subst h3; simp [Op.eqFields]
    | cons x r => simp [eqParts] at h3
  | f :: fs, o, l, q, pre, pre2, c1, c2, c, d, h1, h2, h3, h4, h5, h6, h7 => by
    simp only [plainFields] at h1
    split at h1 <;> try (cases h1; done)
    rename_i hf
    obtain ⟨hname, hoff, hk⟩ := hf
    simp only [Option.map_eq_some_iff] at h1
    obtain ⟨ks, hks, h1⟩ := h1
    have hpart : ∀ (p1 : List Value) (v : Value) (r1 : List Value), p1.length = o → (kindT P f.type = 1 ∨ kindT P f.type = 6 ∨ kindT P f.type = 7) → (part f.type (p1 ++ v :: r1).toArray f.offset).run P w = .ok v w := by
      intro p1 v r1 hp hk
      have hu : ∃ dd, P.underlying f.type = some dd ∧ aggD dd = false := by
        rcases hk with hk | hk | hk
        · exact ⟨_, kindT_1 hk, rfl⟩
        · exact ⟨_, kindT_6 hk, rfl⟩
        · obtain ⟨k, hk⟩ := kindT_7 hk; exact ⟨_, hk, rfl⟩
      obtain ⟨dd, hu1, hu2⟩ := hu
      unfold part
      rw [Sem.run_bind, run_isAgg' hu1]
      simp [hu2, hoff, ← hp]
    have step : ∀ (v1 v2 : Value) (r1 r2 : List Value) (a cc : Bool) (l' q' : List AV) (c1' c2' : List Value), c1 = v1 :: c1' → c2 = v2 :: c2' →
        (Op.equalIn (d + 1) f.type v1 v2).run P w = .ok a w → plainFields P fs (o + 1) = some (kindsOf l') → kindsOf q' = kindsOf l' → eqParts l' q' = some cc → Reps I w l' c1' → Reps I w q' c2' → c = (a && cc) →
        (Op.eqFields (d + 1) (pre ++ c1).toArray (pre2 ++ c2).toArray (f :: fs)).run P w = .ok c w := by
      intro v1 v2 r1 r2 a cc l' q' c1' c2' e1 e2 e3 e4 e5 e6 e7 e8 e9
      have ih := run_eqFields (pre := pre ++ [v1]) (pre2 := pre2 ++ [v2]) d e4 e5 e6 e7 e8 (by simp [h6]) (by simp [h7])
      simp only [List.append_assoc, List.singleton_append] at ih
      subst e1; subst e2
      unfold Op.eqFields
      rw [Sem.run_ite, if_pos hname]
      simp only [Sem.run_bind, hpart pre v1 c1' h6 hk, hpart pre2 v2 c2' h7 hk, Result.andThen_ok, e3]
      cases a
      · simp [e9]
      · simp [e9, ih]
    cases l with
    | nil => simp [kindsOf] at h1
    | cons x l' =>
      cases q with
      | nil =>
        exfalso
        rw [← h1] at h2
        simp [kindsOf] at h2
      | cons y q' =>
        simp only [Reps] at h4 h5
        obtain ⟨d1, d2, f1, f2, f3⟩ := h4
        obtain ⟨g1, g2, k1, k2, k3⟩ := h5
        cases x <;> try (simp [eqParts] at h3; done)
        rename_i u
        cases y <;> try (simp [eqParts] at h3; done)
        rename_i v
        simp only [Rep] at f2 k2
        cases u <;> try (simp [eqParts] at h3; done)
        · rename_i a
          cases v <;> try (simp [eqParts] at h3; done)
          rename_i b
          simp only [eqParts, Option.map_eq_some_iff] at h3
          obtain ⟨cc, hcc, h3⟩ := h3
          simp only [kindsOf, List.cons.injEq] at h1 h2
          refine step _ _ [] [] (a == b) cc l' q' d2 g2 (by rw [f1, f2.1]; rfl) (by rw [k1, k2.1]; rfl) ?_ (by rw [hks, h1.2]) h2.2 hcc f3 k3 h3.symm
          exact run_equalIn_bool' w d f.type a b (kindT_1 h1.1)
        · rename_i k a
          cases v <;> try (simp [eqParts] at h3; done)
          rename_i k' b
          simp only [eqParts] at h3
          split at h3 <;> try (cases h3; done)
          rename_i hkk
          subst hkk
          simp only [Option.map_eq_some_iff] at h3
          obtain ⟨cc, hcc, h3⟩ := h3
          simp only [kindsOf, List.cons.injEq] at h1 h2
          obtain ⟨kk, hu⟩ := kindT_7 h1.1
          refine step _ _ [] [] (decide (a = b)) cc l' q' d2 g2 (by rw [f1, f2.1]; rfl) (by rw [k1, k2.1]; rfl) ?_ (by rw [hks, h1.2]) h2.2 hcc f3 k3 h3.symm
          rw [run_equalIn_int w d f.type k kk a b hu, beq_dec]
        · rename_i a
          cases v <;> try (simp [eqParts] at h3; done)
          rename_i b
          simp only [eqParts, Option.map_eq_some_iff] at h3
          obtain ⟨cc, hcc, h3⟩ := h3
          simp only [kindsOf, List.cons.injEq] at h1 h2
          refine step _ _ [] [] (decide (a.data.toList = b.data.toList)) cc l' q' d2 g2 (by rw [f1, f2.1]; rfl) (by rw [k1, k2.1]; rfl) ?_ (by rw [hks, h1.2]) h2.2 hcc f3 k3 h3.symm
          rw [run_equalIn_string w d f.type a b (kindT_6 h1.1), ByteArray.toList_eq, ByteArray.toList_eq, beq_dec]

theorem aBin_ok {P : Program} {op : BinOp} {t : TypeId} {x y : AV} {u v : Value} {ox oy : Operand} {I : Nat → Nat → Prop} {w : World} {H : Heap} {K : AV → Heap → Prop} (h : aBin P op t x y H K)
    (hx : RepT I w x u) (hy : RepT I w y v) (hR : Rel I w H) : SemOk P (do eqGuard op t ox oy u v; binOp op t u v) I w H K := by
  have nilP : ∀ {a : Option Addr} {c : Bool}, u = .pointer a → v = .pointer none → a.isNone = c → kindT P t = 2 → (match eqRes op c with | some r => K (.v r) H | none => False) → SemOk P (do eqGuard op t ox oy u v; binOp op t u v) I w H K := by
    intro a c e1 e2 e3 hk h
    subst e1; subst e2
    split at h <;> try exact h.elim
    rename_i r hr
    obtain ⟨e, he⟩ := kindT_2 hk
    have he' : P.underlying t = some (.pointer (P.pointee t)) := by simp [Program.pointee, he]
    exact .same (run_eqNil hr (eqGuard_at_pointer op t ox oy _ _) (fun w => by rw [run_eql_pointer_nil w t a he', e3]) (fun w => by rw [run_neq_pointer_nil w t a he', e3]) w) (by simp [RepT, RepV]) h hR
  have nilS : ∀ {a : Option Addr} {n m n' m' : Nat} {c : Bool}, u = .slice a n m → v = .slice none n' m' → a.isNone = c → kindT P t = 3 → (match eqRes op c with | some r => K (.v r) H | none => False) → SemOk P (do eqGuard op t ox oy u v; binOp op t u v) I w H K := by
    intro a n m n' m' c e1 e2 e3 hk h
    subst e1; subst e2
    split at h <;> try exact h.elim
    rename_i r hr
    obtain ⟨e, he⟩ := kindT_3 hk
    exact .same (run_eqNil hr (eqGuard_at_slice op t ox oy _ _ _ _) (fun w => by rw [Lib.run_eql_slice_nil w t e a n m n' m' he, e3]) (fun w => by rw [run_neq_slice_nil_any w t e a n m n' m' he, e3]) w) (by simp [RepT, RepV]) h hR
  unfold aBin at h
  split at h <;> try exact h.elim
  · split at h <;> try exact h.elim
    split at h <;> try exact h.elim
    rename_i r hr
    simp only [RepT, RepV] at hx hy
    subst hx; subst hy
    exact .same (run_intBin hr w) (by simp [RepT, RepV]) h hR
  · split at h <;> try exact h.elim
    split at h <;> try exact h.elim
    rename_i r hr
    simp only [RepT, RepV] at hx hy
    subst hx; subst hy
    exact .same (run_strBin hr w) (by simp [RepT, RepV]) h hR
  · split at h <;> try exact h.elim
    rename_i a _ b
    obtain ⟨hk, h⟩ := h
    split at h <;> try exact h.elim
    rename_i r hr
    simp only [RepT, RepV] at hx hy
    subst hx; subst hy
    exact .same (run_eqNil hr (eqGuard_at_bool op t ox oy _ _) (fun w => run_eql_bool w t a b (kindT_1 hk)) (fun w => run_neq_bool w t a b (kindT_1 hk)) w) (by simp [RepT, RepV]) h hR
  · split at h <;> try exact h.elim
    simp only [RepT, RepV] at hx hy
    exact nilP hx hy rfl h.1 h.2
  · split at h <;> try exact h.elim
    simp only [RepT, RepV, Rep] at hx hy
    obtain ⟨b, o, cells, k1, _⟩ := hx
    simp only [List.cons.injEq, and_true] at k1
    exact nilP k1 hy rfl h.1 h.2
  · split at h <;> try exact h.elim
    simp only [RepT, RepV, Rep, List.cons.injEq, and_true] at hx hy
    exact nilP hx hy rfl h.1 h.2
  · split at h <;> try exact h.elim
    simp only [RepT, RepV] at hx hy
    exact nilS hx hy rfl h.1 h.2
  · split at h <;> try exact h.elim
    simp only [RepT, RepV, Rep] at hx hy
    obtain ⟨off, cap, k1, _⟩ := hx
    simp only [List.cons.injEq, and_true] at k1
    exact nilS k1 hy rfl h.1 h.2
  · split at h <;> try exact h.elim
    rename_i l _ _ _
    simp only [RepT, RepV, Rep] at hx hy
    obtain ⟨a, cap, cells, k1, k2, _, _, k4⟩ := hx
    simp only [List.cons.injEq, and_true] at k1
    refine nilS k1 hy rfl h.1 (h.2 _ fun hc => ?_)
    rcases k4 with k4 | ⟨b, o, k5, _⟩
    · exact k4
    · rw [k5] at hc; simp at hc
  · split at h <;> try exact h.elim
    obtain ⟨hk, h⟩ := h
    simp only [RepT, RepV, Rep, List.cons.injEq, and_true] at hx hy
    subst hx; subst hy
    split at h <;> try exact h.elim
    rename_i r hr
    obtain ⟨k, e, he⟩ := kindT_4 hk
    exact .same (run_eqNil hr (eqGuard_at_map op t ox oy _ _) (fun w => by rw [run_eql_map_nil w t k e _ he]; rfl) (fun w => by rw [Go.run_neq_map_nil w t k e _ he]; rfl) w) (by simp [RepT, RepV]) h hR
  · split at h <;> try exact h.elim
    rename_i l _ q
    obtain ⟨h1, h2, h⟩ := h
    split at h <;> try exact h.elim
    rename_i c hc
    split at h <;> try exact h.elim
    rename_i r hr
    simp only [RepT, RepV] at hx hy
    obtain ⟨c1, rfl, e1⟩ := hx
    obtain ⟨c2, rfl, e2⟩ := hy
    unfold plainT at h1
    split at h1 <;> try (cases h1; done)
    rename_i fs hu
    split at h1 <;> try (cases h1; done)
    rename_i hh
    have hfo : P.underlying t = some (.struct (P.fieldsOf t)) := by simp [Program.fieldsOf, hu]
    have hfs : P.fieldsOf t = fs := by simp [Program.fieldsOf, hu]
    have hrun := run_eqFields (pre := []) (pre2 := []) (w := w) 9998 h1 h2 hc e1 e2 rfl rfl
    have hin : (Op.equalIn 10000 t (.agg c1.toArray) (.agg c2.toArray)).run P w = .ok c w := by
      rw [run_equalIn_struct w 9999 t _ _ hfo hh.1, hfs]; exact hrun
    refine .same (y := r) ?_ (by simp [RepT, RepV]) h hR
    rw [Sem.run_bind, run_eqGuard_agg w op t ox oy _ _ hh.2]
    cases op <;> simp only [eqRes] at hr <;> (try (cases hr; done)) <;> cases hr
    · simp only [Result.andThen_ok, run_eql_struct, hin]
    · simp only [Result.andThen_ok, run_neq_struct, hin]

end Go.Flow
