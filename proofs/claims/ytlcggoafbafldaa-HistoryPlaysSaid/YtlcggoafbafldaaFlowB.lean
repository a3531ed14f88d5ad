/-
  Triples over abstract values: a code's, a function's; the rules of control. No condition.
-/
import Derived.Test.YtlcggoafbafldaaFlowA
set_option linter.unusedSectionVars false
set_option linter.unusedVariables false
namespace Go.Flow
open Go

/-- what the temporaries hold: those that are named -/
abbrev Env := List (Nat × AV)

def Env.get (ρ : Env) (t : Nat) : AV :=
  match ρ with
  | [] => .any
  | (d, x) :: r => if t = d then x else Env.get r t

def Env.keep (ρ : Env) (ts : List Nat) : Env := ts.map fun t => (t, ρ.get t)

structure Regs (I : Nat → Nat → Prop) (w : World) (N : Nat) (ρ : Env) (a : Act) : Prop where
  defers : a.defers = []
  size : a.tmps.size = N
  rep : ∀ t, RepT I w (ρ.get t) (a.tmps.getD t undef)

theorem Regs.lasts {I I' : Nat → Nat → Prop} {w w' : World} {N : Nat} {ρ : Env} {a : Act} (h : Lasts I w I' w') (r : Regs I w N ρ a) : Regs I' w' N ρ a :=
  ⟨r.defers, r.size, fun t => RepT.lasts h (r.rep t)⟩

theorem Regs.weaken {I : Nat → Nat → Prop} {w : World} {N : Nat} {ρ ρ' : Env} {a : Act} (r : Regs I w N ρ a) (h : ∀ t, ρ'.get t = .any ∨ ρ'.get t = ρ.get t) : Regs I w N ρ' a :=
  ⟨r.defers, r.size, fun t => by
    rcases h t with h | h
    · rw [h]; simp [RepT, RepV]
    · rw [h]; exact r.rep t⟩

theorem Env.get_keep : ∀ (ts : List Nat) (ρ : Env) (t : Nat), (ρ.keep ts).get t = .any ∨ (ρ.keep ts).get t = ρ.get t
  | [], _, _ => .inl rfl
  | d :: r, ρ, t => by
    simp only [Env.keep, List.map_cons, Env.get]
    split
    · rename_i h; subst h; exact .inr rfl
    · exact Env.get_keep r ρ t

/-- a code's triple -/
def ACode (P : Program) (N : Nat) (c : Code) (Q : Exit → Env → Heap → Prop) (ρ : Env) (H : Heap) : Prop :=
  ∀ (I : Nat → Nat → Prop) (w : World) (a : Act), Rel I w H → Regs I w N ρ a →
    c.wp P (fun e a' w' => ∃ I' ρ' H', Q e ρ' H' ∧ Rel I' w' H' ∧ Regs I' w' N ρ' a' ∧ Ext I w H I' w' H') a w

/-- a function's triple -/
def ACalls (P : Program) (f : FuncId) (args : List AV) (H : Heap) (K : AV → Heap → Prop) : Prop :=
  (∃ fn, P.funcs[f]? = some fn ∧ fn.body.isSome = true ∧ (fn.name == "runtime.NumGoroutine") = false) ∧
  ∀ (I : Nat → Nat → Prop) (w : World) (vs : List Value), Rel I w H → RepVs I w args vs →
    Calls P f vs.toArray w (fun e w' => ∃ y, e = .returned y ∧ ∃ I' x H', K x H' ∧ RepT I' w' x y ∧ Rel I' w' H' ∧ Ext I w H I' w' H')

section
variable {P : Program} {N : Nat} {Q : Exit → Env → Heap → Prop} {ρ : Env} {H : Heap}

theorem ACode.mono {c : Code} {Q' : Exit → Env → Heap → Prop} (h : ACode P N c Q ρ H) (hq : ∀ e ρ H, Q e ρ H → Q' e ρ H) : ACode P N c Q' ρ H :=
  fun I w a hR hG => Go.wp_mono (h I w a hR hG) fun _ _ _ ⟨I', ρ', H', q, r⟩ => ⟨I', ρ', H', hq _ _ _ q, r⟩

/-- temporaries that nobody asks for may be forgotten -/
theorem ACode.forget {c : Code} {ρ' : Env} (h : ACode P N c Q ρ' H) (hw : ∀ t, ρ'.get t = .any ∨ ρ'.get t = ρ.get t) : ACode P N c Q ρ H :=
  fun I w a hR hG => h I w a hR (hG.weaken hw)

theorem Rel.drop {I : Nat → Nat → Prop} {w : World} {H H' : Heap} (h : Rel I w H) (hs : ∀ b r, H' b = some r → H b = some r) : Rel I w H' :=
  ⟨fun b r hb => h.res b r (hs b r hb), h.lt⟩

/-- resources that nobody asks for may be dropped -/
theorem ACode.drop {c : Code} {H' : Heap} (h : ACode P N c Q ρ H') (hs : ∀ b r, H' b = some r → H b = some r) : ACode P N c Q ρ H :=
  fun I w a hR hG => Go.wp_mono (h I w a (hR.drop hs) hG) fun _ _ _ ⟨I', ρ', H1, q, r1, r2, x⟩ => ⟨I', ρ', H1, q, r1, r2,
    { x with frame := fun b hb hn => x.frame b hb (by
        cases e : H' b with
        | none => rfl
        | some r => have := hs b r e; rw [hn] at this; cases this) }⟩

def seqQ (k : Env → Heap → Prop) (Q : Exit → Env → Heap → Prop) : Exit → Env → Heap → Prop
  | .normal, ρ, H => k ρ H
  | e, ρ, H => Q e ρ H

def blockQ (id : Nat) (Q : Exit → Env → Heap → Prop) : Exit → Env → Heap → Prop
  | .exit id', ρ, H => if id' = id then Q .normal ρ H else Q (.exit id') ρ H
  | e, ρ, H => Q e ρ H

theorem seqQ_normal {k : Env → Heap → Prop} : seqQ k Q .normal ρ H = k ρ H := rfl
theorem seqQ_ret {k : Env → Heap → Prop} : seqQ k Q .ret ρ H = Q .ret ρ H := rfl
theorem seqQ_exit {k : Env → Heap → Prop} {id : Nat} : seqQ k Q (.exit id) ρ H = Q (.exit id) ρ H := rfl
theorem blockQ_normal {id : Nat} : blockQ id Q .normal ρ H = Q .normal ρ H := rfl
theorem blockQ_ret {id : Nat} : blockQ id Q .ret ρ H = Q .ret ρ H := rfl
theorem blockQ_exit {id id' : Nat} : blockQ id Q (.exit id') ρ H = if id' = id then Q .normal ρ H else Q (.exit id') ρ H := rfl

theorem ACode.skip (h : Q .normal ρ H) : ACode P N .skip Q ρ H :=
  fun I w a hR hG => wp_skip ⟨I, ρ, H, h, hR, hG, Ext.refl⟩

theorem ACode.ret (h : Q .ret ρ H) : ACode P N .ret Q ρ H :=
  fun I w a hR hG => wp_ret ⟨I, ρ, H, h, hR, hG, Ext.refl⟩

theorem ACode.exit {id : Nat} (h : Q (.exit id) ρ H) : ACode P N (.exit id) Q ρ H :=
  fun I w a hR hG => wp_exit ⟨I, ρ, H, h, hR, hG, Ext.refl⟩

theorem ACode.seq {x y : Code} (h : ACode P N x (seqQ (fun ρ H => ACode P N y Q ρ H) Q) ρ H) : ACode P N (.seq x y) Q ρ H := by
  intro I w a hR hG
  refine wp_seq (Go.wp_mono (h I w a hR hG) ?_)
  rintro e a' w' ⟨I', ρ', H', q, r1, r2, x1⟩
  cases e <;> simp only [Exit.then, seqQ] at q ⊢
  case normal =>
    refine Go.wp_mono (q I' w' a' r1 r2) ?_
    rintro e2 a2 w2 ⟨I2, ρ2, H2, q2, s1, s2, x2⟩
    exact ⟨I2, ρ2, H2, q2, s1, s2, x1.trans x2⟩
  all_goals exact ⟨I', ρ', H', q, r1, r2, x1⟩

theorem ACode.block {id : Nat} {c : Code} (h : ACode P N c (blockQ id Q) ρ H) : ACode P N (.block id c) Q ρ H := by
  intro I w a hR hG
  refine wp_block (Go.wp_mono (h I w a hR hG) ?_)
  rintro e a' w' ⟨I', ρ', H', q, r1, r2, x1⟩
  cases e <;> simp only [Exit.inBlock, blockQ] at q ⊢
  case exit id' =>
    by_cases hid : id' = id
    · rw [if_pos hid] at q ⊢; exact ⟨I', ρ', H', q, r1, r2, x1⟩
    · rw [if_neg hid] at q ⊢; exact ⟨I', ρ', H', q, r1, r2, x1⟩
  all_goals exact ⟨I', ρ', H', q, r1, r2, x1⟩

def Env.eval (ρ : Env) : Operand → AV
  | .tmp t => ρ.get t
  | .const v => .v v
  | .global _ => .any
  | .func f => .fn f [] []

theorem Regs.eval {I : Nat → Nat → Prop} {w : World} {a : Act} (h : Regs I w N ρ a) (x : Operand) : RepT I w (ρ.eval x) (a.eval x) := by
  cases x with
  | tmp t => exact h.rep t
  | const v => simp [Env.eval, Act.eval, RepT, RepV]
  | global g => simp [Env.eval, RepT, RepV]
  | func f => simp [Env.eval, Act.eval, RepT, RepV, Rep, Rep1]

theorem ACode.cond {c : Operand} {x y : Code} {t : Bool} (hc : ρ.eval c = .v (.bool t)) (h1 : t = true → ACode P N x Q ρ H) (h2 : t = false → ACode P N y Q ρ H) :
    ACode P N (.cond c x y) Q ρ H := by
  intro I w a hR hG
  have he := hG.eval c
  rw [hc] at he
  simp only [RepT, RepV] at he
  cases t
  · exact wp_cond he (h2 rfl I w a hR hG)
  · exact wp_cond he (h1 rfl I w a hR hG)

/-- a loop: what holds at its head, and a measure -/
theorem ACode.loop {c : Code} (Inv : Nat → Env → Heap → Prop) (n : Nat) (h0 : Inv n ρ H)
    (round : ∀ n ρ H, Inv n ρ H → ACode P N c (seqQ (fun ρ' H' => ∃ m, m < n ∧ Inv m ρ' H') Q) ρ H) : ACode P N (.loop c) Q ρ H := by
  intro I w a hR hG
  have key : ∀ n : Nat, ∀ ρ H I1 w1 a1, Inv n ρ H → Rel I1 w1 H → Regs I1 w1 N ρ a1 → ∀ (b : Frame) (k : List Item) (cs : List Frame),
      ∃ e a' w', (∃ I' ρ' H', Q e ρ' H' ∧ Rel I' w' H' ∧ Regs I' w' N ρ' a' ∧ Ext I1 w1 H I' w' H') ∧
        Arrives P (lone (b.at a1 (.code c :: .inLoop c :: k)) cs w1) b k cs e a' w' := by
    intro n
    induction n using Nat.strongRecOn with
    | _ n ih =>
      intro ρ H I1 w1 a1 hI hR hG b k cs
      obtain ⟨e, a', w', ⟨I', ρ', H', q, r1, r2, x1⟩, harr⟩ := round n ρ H hI I1 w1 a1 hR hG b (.inLoop c :: k) cs
      cases e with
      | normal =>
        obtain ⟨m, hm, hI'⟩ := q
        obtain ⟨e2, a2, w2, ⟨I2, ρ2, H2, q2, s1, s2, x2⟩, harr2⟩ := ih m hm ρ' H' I' w' a' hI' r1 r2 b k cs
        exact ⟨e2, a2, w2, ⟨I2, ρ2, H2, q2, s1, s2, x1.trans x2⟩, .of_steps (Steps.trans harr (.one step_inLoop)) harr2⟩
      | exit id => exact ⟨_, a', w', ⟨I', ρ', H', q, r1, r2, x1⟩, .pass (x := .inLoop c) rfl (fun _ _ => .inl (by simp)) harr⟩
      | goto l => exact ⟨_, a', w', ⟨I', ρ', H', q, r1, r2, x1⟩, .pass (x := .inLoop c) rfl (fun _ _ => .inl (by simp)) harr⟩
      | ret => exact ⟨_, a', w', ⟨I', ρ', H', q, r1, r2, x1⟩, .pass (x := .inLoop c) rfl (fun _ _ => .inl (by simp)) harr⟩
      | panic ch => exact ⟨_, a', w', ⟨I', ρ', H', q, r1, r2, x1⟩, .pass (x := .inLoop c) rfl (fun _ _ => .inl (by simp)) harr⟩
      | outgrown => exact ⟨_, a', w', ⟨I', ρ', H', q, r1, r2, x1⟩, .pass (x := .inLoop c) rfl (fun _ _ => .inl (by simp)) harr⟩
  intro b k cs
  obtain ⟨e, a', w', hq, harr⟩ := key n ρ H I w a h0 hR hG b k cs
  exact ⟨e, a', w', hq, .of_steps (.one step_loop) harr⟩

/-- what a function hands back, off its temporaries -/
def untup : AV → AV
  | .tup _ => .any
  | x => x

def resAV : List ResultVar → Env → AV
  | [], _ => .tup []
  | [.tmp t], ρ => ρ.get t
  | l, ρ => .tup (l.map fun | .tmp t => untup (ρ.get t) | .cell _ _ => .any)

def tmpsOnly (l : List ResultVar) : Bool := l.all fun | .tmp _ => true | _ => false

def retQ (rs : List ResultVar) (K : AV → Heap → Prop) : Exit → Env → Heap → Prop
  | .normal, ρ, H => K (resAV rs ρ) H
  | .ret, ρ, H => K (resAV rs ρ) H
  | _, _, _ => False

theorem retQ_ret {rs : List ResultVar} {K : AV → Heap → Prop} : retQ rs K .ret ρ H = K (resAV rs ρ) H := rfl
theorem retQ_normal {rs : List ResultVar} {K : AV → Heap → Prop} : retQ rs K .normal ρ H = K (resAV rs ρ) H := rfl

end
end Go.Flow
