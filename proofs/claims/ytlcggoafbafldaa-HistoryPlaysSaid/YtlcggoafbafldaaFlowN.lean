/-
  Operations one by one, in any way that is proved; rows and variables whose type is known; what a strings.Builder holds. No condition.
-/
import Derived.Test.YtlcggoafbafldaaFlowM
import Derived.Lib.Builder
import Derived.Laws.Externs
import Derived.Lib.UnsafeStr
set_option linter.unusedVariables false
set_option linter.unusedSectionVars false
namespace Go.Flow
open Go

/-! ### a region's operations, in parts -/
section
variable {P : Program} {ops : Array Oper} {N : Nat} {K M : Env → Heap → Prop} {ρ : Env} {H : Heap}

/-- these operations, from here on -/
def AL (P : Program) (ops : Array Oper) (N : Nat) (K : Env → Heap → Prop) (l : List Oper) (ρ : Env) (H : Heap) : Prop :=
  ∀ (I : Nat → Nat → Prop) (w : World) (a : Act), Rel I w H → Regs I w N ρ a → wpList P ops (Behind I w H N K) l a w

theorem AL.run {l : List Oper} (hd : opsOk N l = true) (h : aOps P ops K l ρ H) : AL P ops N K l ρ H := fun I w a hR hG => aOps_ok (fun o ho => opsOk_mem hd ho) h hR hG

theorem Oper.wp_else {o : Oper} {a : Act} {w : World} {K : Act → World → Prop} {Q Q' : Exit → Act → World → Prop} (hq : ∀ e a w, e ≠ .normal → Q e a w → Q' e a w) (hh : o.wp P a w K Q) : o.wp P a w K Q' := by
  unfold Oper.wp at *
  generalize (execOp a.eval o).run P w = r at *
  cases r with
  | ok n w' =>
    cases n <;> simp only [Oper.upon] at hh ⊢ <;> first
      | exact hh
      | exact Calls.mono hh (fun e w'' he => by
          cases e <;> first
            | exact he
            | exact hq _ _ _ (by intro h; cases h) he
            | (obtain ⟨a, w, h⟩ := he; exact ⟨a, w, hq _ _ _ (by intro h; cases h) h⟩))
  | halt x w' => cases x <;> simp only [Oper.upon] at hh ⊢ <;> first | exact hh | exact hq _ _ _ (by intro h; cases h) hh

theorem behind_list {I I' : Nat → Nat → Prop} {w w' : World} {H' : Heap} (hE : Ext I w H I' w' H') :
    ∀ (l : List Oper) (a1 : Act) (w1 : World), wpList P ops (Behind I' w' H' N K) l a1 w1 → wpList P ops (Behind I w H N K) l a1 w1
  | [], a1, w1, h => by
    obtain ⟨e, I2, ρ2, H2, q1, q2, q3, q4⟩ := h
    exact ⟨e, I2, ρ2, H2, q1, q2, q3, hE.trans q4⟩
  | o :: l, a1, w1, h => by
    unfold wpList at h ⊢
    split
    · rename_i hw
      rw [if_pos hw] at h
      rcases h with h | ⟨h1, a2, w2, h2⟩
      · refine .inl (Oper.wp_else (fun e a w hn hb => absurd hb.1 hn) (Oper.wp_mono (fun a w h => behind_list hE l a w h) h))
      · exact .inr ⟨h1, a2, w2, by obtain ⟨e1, _⟩ := h2; cases e1⟩
    · rename_i hw
      rw [if_neg hw] at h
      exact behind_list hE l _ _ h

theorem wpList_glue {Q1 Q : Exit → Act → World → Prop} {r : List Oper} (hn : ∀ a w, Q1 .normal a w → wpList P ops Q r a w) (he : ∀ e a w, Q1 e a w → e = .normal) :
    ∀ (l : List Oper) (a : Act) (w : World), wpList P ops Q1 l a w → wpList P ops Q (l ++ r) a w
  | [], a, w, h => hn a w h
  | o :: l, a, w, h => by
    rw [List.cons_append]
    unfold wpList at h ⊢
    split
    · rename_i hw
      rw [if_pos hw] at h
      rcases h with h | ⟨h1, a2, w2, h2⟩
      · exact .inl (Oper.wp_else (fun e a w hne hb => absurd (he _ _ _ hb) hne) (Oper.wp_mono (fun a w h => wpList_glue hn he l a w h) h))
      · exact absurd (he _ _ _ h2) (by intro h; cases h)
    · rename_i hw
      rw [if_neg hw] at h
      exact wpList_glue hn he l _ _ h

theorem AL.append {l1 l2 : List Oper} (h1 : AL P ops N M l1 ρ H) (h2 : ∀ ρ1 H1, M ρ1 H1 → AL P ops N K l2 ρ1 H1) : AL P ops N K (l1 ++ l2) ρ H := fun I w a hR hG =>
  wpList_glue (fun a' w' ⟨_, I', ρ', H', hM, hR', hG', hE⟩ => behind_list hE _ _ _ (h2 ρ' H' hM I' w' a' hR' hG')) (fun e a w h => h.1) l1 a w (h1 I w a hR hG)

theorem AL.one {o : Oper} (hg : o.guard = none) (hd : ∀ d, o.dst = some d → d < N)
    (h : ∀ (I : Nat → Nat → Prop) (w : World) (a : Act) (Q : Exit → Act → World → Prop), Rel I w H → Regs I w N ρ a → o.wp P a w (After I w H (fun x H' => K (ρ.put o.dst x) H') o.dst a) Q) : AL P ops N K [o] ρ H := by
  intro I w a hR hG
  unfold wpList
  rw [if_pos (by simp [Region.wanted, hg])]
  refine .inl (Oper.wp_mono ?_ (h I w a _ hR hG))
  rintro a' w' ⟨y, x, I', H', rfl, hx, hk, hR', hE⟩
  exact ⟨rfl, I', _, H', hk, hR', hG.put hE.lasts hx hd, hE⟩

/-- one operation that yields a value -/
theorem AL.sem {o : Oper} (hg : o.guard = none) (hd : ∀ d, o.dst = some d → d < N)
    (h : ∀ (I : Nat → Nat → Prop) (w : World) (a : Act), Rel I w H → Regs I w N ρ a → ∃ s, execOp a.eval o = (do pure (.value (← s))) ∧ SemOk P s I w H (fun x H' => K (ρ.put o.dst x) H')) : AL P ops N K [o] ρ H :=
  AL.one hg hd fun I w a Q hR hG => by
    obtain ⟨s, h1, h2⟩ := h I w a hR hG
    exact upon_sem h2 h1

theorem opsOk_one {o : Oper} (h : opsOk N [o] = true) : ∀ d, o.dst = some d → d < N := opsOk_mem h (by simp)

/-- one operation by its rule, then the others -/
theorem AL.rule {o : Oper} {r : List Oper} (hg : o.guard = none) (hd : opsOk N [o] = true) (h : aOp P o.op ρ.eval H (fun x H' => AL P ops N K r (ρ.put o.dst x) H')) : AL P ops N K (o :: r) ρ H := by
  have h1 : AL P ops N (fun ρ1 H1 => AL P ops N K r ρ1 H1) [o] ρ H := AL.one hg (opsOk_one hd) fun I w a Q hR hG => aOp_ok h hR hG
  exact h1.append fun _ _ h => h

/-- one operation that yields a value, then the others -/
theorem AL.step {o : Oper} {r : List Oper} (hg : o.guard = none) (hd : opsOk N [o] = true)
    (h : ∀ (I : Nat → Nat → Prop) (w : World) (a : Act), Rel I w H → Regs I w N ρ a → ∃ s, execOp a.eval o = (do pure (.value (← s))) ∧ SemOk P s I w H (fun x H' => AL P ops N K r (ρ.put o.dst x) H')) : AL P ops N K (o :: r) ρ H := by
  have h1 : AL P ops N (fun ρ1 H1 => AL P ops N K r ρ1 H1) [o] ρ H := AL.sem hg (opsOk_one hd) h
  exact h1.append fun _ _ h => h

/-- a call of a function that the model itself gives, of one pointer, which hands it back -/
theorem AL.same {o : Oper} {r : List Oper} {g : FuncId} {fn : Func} {ev : Array Value → Sem Value} {x : Operand} {b off : Nat} {p : List Nat} (hg : o.guard = none) (hd : opsOk N [o] = true)
    (hf : P.funcs[g]? = some fn) (hname : (fn.name == "runtime.NumGoroutine") = false) (hb : fn.body.isNone = true) (hn : Extern.findNext fn = none) (he : Extern.find fn = some ev) (hev : ∀ v w, (ev #[v]).run P w = .ok v w)
    (ho : ∃ ts, o.op = .call { callee := .value (.func g), args := #[x], argTypes := ts }) (hx : ρ.eval x = .bp b off p) (h : AL P ops N K r (ρ.put o.dst (.bp b off p)) H) : AL P ops N K (o :: r) ρ H := by
  have h1 : AL P ops N (fun ρ1 H1 => AL P ops N K r ρ1 H1) [o] ρ H := AL.one hg (opsOk_one hd) fun I w a Q hR hG => by
    obtain ⟨ts, ho⟩ := ho
    have hv := hG.eval x
    rw [hx] at hv
    unfold Oper.wp
    have hexec : (execOp a.eval o).run P w = .ok (.value (a.eval x)) w := by
      have h0 : (callFunc g #[a.eval x]).run P w = .ok (.value (a.eval x)) w := by
        rw [run_callFunc_extern hf hname hb hn he, hev]; rfl
      simp only [execOp, ho, resolve, Act.eval, Deferred.ofValue, Sem.run_bind, Sem.run_pure, Result.andThen_ok, invoke, List.map_toArray, List.map_cons, List.map_nil, List.append_toArray, List.nil_append, List.append_nil]
      exact h0
    rw [hexec]
    simp only [Oper.upon]
    exact ⟨_, _, I, H, rfl, hv, h, hR, Ext.refl⟩
  exact h1.append fun _ _ h => h

theorem AL.forget {l : List Oper} {ρ' : Env} (h : AL P ops N K l ρ' H) (hw : ∀ t, ρ'.get t = .any ∨ ρ'.get t = ρ.get t) : AL P ops N K l ρ H := fun I w a hR hG => h I w a hR (hG.weaken hw)

theorem ACode.of_AL {Q : Exit → Env → Heap → Prop} {id : Nat} {l : List Oper} (ts : List Nat) (h : ∀ K : Env → Heap → Prop, (∀ ρ1 H1, Q .normal ρ1 H1 → ∀ ρ0, Env.keep ρ0 ts = ρ1 → K ρ0 H1) → AL P l.toArray N K l ρ H) : ACode P N (.region id l.toArray false) Q ρ H := by
  intro I w a hR hG
  have := h (fun ρ H => Q .normal (ρ.keep ts) H) (fun _ _ h _ e => e ▸ h) I w a hR hG
  refine Go.wp_mono (wp_region_lit this) ?_
  rintro e a' w' ⟨rfl, I', ρ', H', q, r1, r2, x1⟩
  exact ⟨I', _, H', q, r1, r2.weaken (Env.get_keep ts ρ'), x1⟩
end

/-- the same, and what is known behind it -/
theorem ACode.AL_cut {P : Program} {N : Nat} {Q : Exit → Env → Heap → Prop} {ρ : Env} {H : Heap} {id : Nat} {l : List Oper} (ts : List Nat) (M : Env → Heap → Prop)
    (h : ∀ K : Env → Heap → Prop, (∀ ρ1 H1, M ρ1 H1 → ∀ ρ0, Env.keep ρ0 ts = ρ1 → K ρ0 H1) → AL P l.toArray N K l ρ H) (h2 : ∀ ρ H, M ρ H → Q .normal ρ H) : ACode P N (.region id l.toArray false) Q ρ H :=
  .of_AL ts fun K hK => h K fun ρ H hm => hK ρ H (h2 _ _ hm)

/-! ### types that are known -/
theorem Rel.promote {I : Nat → Nat → Prop} {w : World} {H : Heap} {b n : Nat} {r : Res} {T : TypeId} (hR : Rel I w (H.upd b r)) (hs : w.shape? b = some (T, n)) : Rel I w (H.upd b (.ty T r)) where
  res d q hd := by
    by_cases e : d = b
    · subst e
      rw [Heap.upd_same] at hd
      cases hd
      exact ⟨hR.res d r (Heap.upd_same _ _ _), n, hs⟩
    · rw [Heap.upd_other _ _ e] at hd
      exact hR.res d q (by rw [Heap.upd_other _ _ e]; exact hd)
  lt := hR.lt

theorem Rel.untype {I : Nat → Nat → Prop} {w : World} {H : Heap} {b : Nat} {r : Res} {T : TypeId} (hR : Rel I w H) (hb : H b = some (.ty T r)) : Rel I w (H.upd b r) where
  res d q hd := by
    by_cases e : d = b
    · subst e
      rw [Heap.upd_same] at hd
      cases hd
      have := hR.res d _ hb
      simp only [ResOk] at this
      exact this.1
    · rw [Heap.upd_other _ _ e] at hd
      exact hR.res d q hd
  lt := hR.lt

theorem Rel.typed {I : Nat → Nat → Prop} {w : World} {H : Heap} {b : Nat} {r : Res} {T : TypeId} (hR : Rel I w H) (hb : H b = some (.ty T r)) : ∃ n, w.shape? b = some (T, n) := by
  have := hR.res b _ hb
  simp only [ResOk] at this
  exact this.2

theorem Rel.boxShape {I : Nat → Nat → Prop} {w : World} {H : Heap} {b : Nat} {x : AV} {T : TypeId} (hR : Rel I w H) (hb : H b = some (.ty T (.box x))) : w.shape? b = some (T, x.size) := by
  have := hR.res b _ hb
  simp only [ResOk] at this
  obtain ⟨⟨_, cs, T', h1, h2⟩, n, h3⟩ := this
  have hl := Rep.length _ _ h2
  simp only [World.shape?, h1, Option.some.injEq, Prod.mk.injEq] at h3 ⊢
  exact ⟨h3.1, by rw [← hl]; simp⟩

/-- what lies where is told otherwise -/
theorem Ext.told {I I' : Nat → Nat → Prop} {w w' : World} {H H' G G' : Heap} (h : Ext I w H I' w' H') (h1 : ∀ b, G b = none → H b = none) (h2 : ∀ b, G b = none → H' b = none → G' b = none) : Ext I w G I' w' G' :=
  ⟨h.keep, h.shape, h.size, fun b hb hn => by
      obtain ⟨a1, a2, a3⟩ := h.frame b hb (h1 b hn)
      exact ⟨a1, h2 b hn a2, a3⟩, h.tape, h.os, h.output⟩

/-- a new variable, whose type is known -/
theorem aAllocT_ok {P : Program} {t : TypeId} {x : AV} {I : Nat → Nat → Prop} {w : World} {H : Heap} {K : AV → Heap → Prop} (hz : zeroA P t = some x) (h : ∀ b, H b = none → K (.bp b 0 []) (H.upd b (.ty t (.box x)))) (hR : Rel I w H) :
    SemOk P (Instr.alloc t true (.tuple #[])) I w H K := by
  obtain ⟨i, z, h1, h2, h3, _⟩ := zeroA_spec hz
  have hn := new_box (T := t) (cs := z.cells) hR (h3 I w)
  refine ⟨.pointer (some ⟨w.heap.size, 0, none⟩), w.alloc (.cells z.cells t), by simp [Instr.alloc, zeroValue, typeInfo, h1, h2, newVar, newRow],
      .bp w.heap.size 0 [], I, _, by simp [RepT, RepV, Rep], h _ hR.fresh, Rel.promote hn.1 (shape_alloc_new w z.cells t), hn.2.told (fun _ h => h) fun b hb h' => ?_⟩
  by_cases e : b = w.heap.size
  · subst e; rw [Heap.upd_same] at h'; cases h'
  · rw [Heap.upd_other _ _ e]; exact hb

/-- append to a row whose type is known, or to none -/
def aAppT (P : Program) (t u : TypeId) (x y : AV) (H : Heap) (K : AV → Heap → Prop) : Prop :=
  match elemT P t, srcOf H y with
  | some (e, s, nb), some l2 => match zeroA P e with
    | some _ => notIntT P u = true ∧ 0 < s ∧ 0 < nb ∧ sizesAre s l2 ∧
      match x with
      | .v (.slice none 0 0) => (l2 = [] → K (.v (.slice none 0 0)) H) ∧ (l2 ≠ [] → l2.length * nb ≤ 140737488355328 ∧ ∀ b, H b = none → K (.slr b s 0 l2.length) (H.upd b (.ty e (.arr s l2))))
      | .slr b s' i j => match H b with
        | some (.ty T (.arr s'' l)) => s' = s ∧ s'' = s ∧ T = e ∧ i = 0 ∧ j = l.length ∧ (j + l2.length) * nb ≤ 140737488355328 ∧ ∀ b', (b' = b ∨ H b' = none) → K (.slr b' s 0 (j + l2.length)) ((H.erase b).upd b' (.ty e (.arr s (l ++ l2))))
        | _ => False
      | _ => False
    | none => False
  | _, _ => False

theorem listOf_upd {H : Heap} {b : Nat} {T : TypeId} {r : Res} {y : AV} {l2 : List AV} (hb : H b = some (.ty T r)) (h : srcOf H y = some l2) : srcOf (H.upd b r) y = some l2 := by
  unfold srcOf at h ⊢
  split at h
  · exact h
  · unfold listOf at h ⊢
    split at h
    · exact h
    · rename_i c s i j _
      split at h
      · rename_i s' l hc
        have : c ≠ b := fun e => by subst e; rw [hb] at hc; cases hc
        simp only [Heap.upd_other _ _ this, hc]
        exact h
      · cases h
    · exact h
    · cases h

theorem aAppT_ok {P : Program} {t u ty : TypeId} {x y : AV} {xv yv : Value} {I : Nat → Nat → Prop} {w : World} {H : Heap} {K : AV → Heap → Prop} (h : aAppT P t u x y H K) (hx : RepT I w x xv) (hy : RepT I w y yv) (hR : Rel I w H) :
    SemOk P (Builtin.append_ #[t, u] ty #[xv, yv]) I w H K := by
  unfold aAppT at h
  split at h <;> try exact h.elim
  rename_i e s nb l2 he hl2
  split at h <;> try exact h.elim
  rename_i za hza
  obtain ⟨hu, hs0, hnb, hsz, h⟩ := h
  split at h <;> try exact h.elim
  · -- none so far
    have hA : aAppend P t u (.v (.slice none 0 0)) y H (fun x' H' => (x' = .v (.slice none 0 0) ∧ H' = H ∧ l2 = []) ∨ (l2 ≠ [] ∧ ∃ b, H b = none ∧ x' = .slr b s 0 l2.length ∧ H' = H.upd b (.arr s l2))) := by
      unfold aAppend
      simp only [he, hl2, hza]
      exact ⟨hu, hs0, hnb, hsz, fun h0 => .inl ⟨trivial, trivial, h0⟩, fun h0 => ⟨(h.2 h0).1, fun b hb => .inr ⟨h0, b, hb, rfl, rfl⟩⟩⟩
    obtain ⟨v, w', h1, x', I', H', h2, h3, h4, h5, h6⟩ := aAppend_ok' (ty := ty) hA hx hy hR
    rcases h3 with ⟨rfl, rfl, h0⟩ | ⟨h0, b, hb, rfl, rfl⟩
    · exact ⟨v, w', h1, _, I', _, h2, h.1 h0, h4, h5⟩
    · obtain ⟨_, _, h6⟩ | ⟨e', s', nb', n, h6, h7⟩ := h6 b s 0 _ rfl
      · cases h6
      · rw [he] at h6
        cases h6
        refine ⟨v, w', h1, _, I', _, h2, (h.2 h0).2 b hb, h4.promote h7, h5.told (fun _ h => h) fun c hc h' => ?_⟩
        by_cases e1 : c = b
        · subst e1; rw [Heap.upd_same] at h'; cases h'
        · rw [Heap.upd_other _ _ e1]; exact hc
  · rename_i b s' i j
    split at h <;> try exact h.elim
    rename_i T s'' l hb
    obtain ⟨rfl, rfl, rfl, rfl, rfl, hbytes, hk⟩ := h
    obtain ⟨n0, hn0⟩ := hR.typed hb
    have hR0 := hR.untype hb
    have hA : aAppend P t u (.slr b s'' 0 l.length) y (H.upd b (.arr s'' l)) (fun x' H' => ∃ b', (b' = b ∨ H b' = none) ∧ x' = .slr b' s'' 0 (l.length + l2.length) ∧ H' = (H.erase b).upd b' (.arr s'' (l ++ l2))) := by
      unfold aAppend
      simp only [he, listOf_upd hb hl2, hza, Heap.upd_same, if_true, true_and, Nat.sub_zero]
      refine ⟨hu, hs0, hnb, hsz, hbytes, fun b' hb' => ⟨b', ?_, rfl, ?_⟩⟩
      · rcases hb' with hb' | hb'
        · exact .inl hb'
        · by_cases e1 : b' = b
          · exact .inl e1
          · rw [Heap.upd_other _ _ e1] at hb'; exact .inr hb'
      · congr 1
        funext c
        simp only [Heap.erase, Heap.upd]
        split <;> rfl
    obtain ⟨v, w', h1, x', I', H', h2, ⟨b', h3, rfl, rfl⟩, h4, h5, h6⟩ := aAppend_ok' (ty := ty) hA hx hy hR0
    have hty : ∃ n, w'.shape? b' = some (T, n) := by
      obtain ⟨_, _, h6⟩ | ⟨e', s', nb', n, h6, h7⟩ := h6 b' s'' 0 _ rfl
      · cases h6; exact ⟨n0, h5.shape _ _ hn0⟩
      · rw [he] at h6; cases h6; exact ⟨n, h7⟩
    obtain ⟨n, hn⟩ := hty
    refine ⟨v, w', h1, _, I', _, h2, hk b' h3, h4.promote hn, h5.told (fun c hc => ?_) fun c hc h' => ?_⟩
    · have : c ≠ b := fun e1 => by subst e1; rw [hb] at hc; cases hc
      rw [Heap.upd_other _ _ this]; exact hc
    · by_cases e1 : c = b'
      · subst e1; rw [Heap.upd_same] at h'; cases h'
      · rw [Heap.upd_other _ _ e1] at h' ⊢; exact h'

/-! ### strings.Builder -/
def byteAVs (l : List UInt8) : List AV := l.map fun b => .v (.int .u8 b.toNat)
theorem byteAVs_length (l : List UInt8) : (byteAVs l).length = l.length := by simp [byteAVs]
theorem byteAVs_append (a b : List UInt8) : byteAVs (a ++ b) = byteAVs a ++ byteAVs b := by simp [byteAVs]
theorem byteAVs_sizes (l : List UInt8) : sizesAre 1 (byteAVs l) := by
  intro x hx
  obtain ⟨y, _, rfl⟩ := List.mem_map.1 hx
  rfl
theorem byteAVs_nil {l : List UInt8} : byteAVs l = [] ↔ l = [] := by simp [byteAVs]
theorem srcOf_str (H : Heap) (s : List UInt8) : srcOf H (.v (.string (mkS s))) = some (byteAVs s) := by simp [srcOf, byteAVs, mkS_list]

/-- a Builder of our own, laid since the resources were H0: what it holds -/
def BldSt (TB e : TypeId) (H0 : Heap) (b : Nat) (l : List UInt8) (H : Heap) : Prop :=
  Heap.le H0 H ∧ H0 b = none ∧ ((l = [] ∧ ∃ p, (p = .v (.pointer none) ∨ p = .bp b 0 []) ∧ H b = some (.ty TB (.box (.agg [p, .v (.slice none 0 0)])))) ∨
    ∃ g, l ≠ [] ∧ H0 g = none ∧ g ≠ b ∧ H b = some (.ty TB (.box (.agg [.bp b 0 [], .slr g 1 0 l.length]))) ∧ H g = some (.ty e (.arr 1 (byteAVs l))))

theorem BldSt.le {TB e : TypeId} {H0 H H' : Heap} {b : Nat} {l : List UInt8} (h : BldSt TB e H0 b l H) (hle : Heap.le H H') : BldSt TB e H0 b l H' := by
  obtain ⟨h1, h2, h3⟩ := h
  refine ⟨fun c r hc => hle _ _ (h1 c r hc), h2, ?_⟩
  rcases h3 with ⟨h3, p, h4, h5⟩ | ⟨g, hl, h3, h4, h5, h6⟩
  · exact .inl ⟨h3, p, h4, hle _ _ h5⟩
  · exact .inr ⟨g, hl, h3, h4, hle _ _ h5, hle _ _ h6⟩

theorem BldSt.base {TB e : TypeId} {H H0 H1 : Heap} {b : Nat} {l : List UInt8} (hle : Heap.le H H0) (h : BldSt TB e H0 b l H1) : BldSt TB e H b l H1 := by
  have free : ∀ c, H0 c = none → H c = none := fun c hc => by
    cases h' : H c with
    | none => rfl
    | some r => rw [hle c r h'] at hc; cases hc
  obtain ⟨h1, h2, h3⟩ := h
  refine ⟨fun c r hc => h1 _ _ (hle c r hc), free _ h2, ?_⟩
  rcases h3 with h3 | ⟨g, hl, h3, h4⟩
  · exact .inl h3
  · exact .inr ⟨g, hl, free _ h3, h4⟩

/-- the same, and its address is laid -/
def BldUsed (TB e : TypeId) (H0 : Heap) (b : Nat) (l : List UInt8) (H : Heap) : Prop :=
  Heap.le H0 H ∧ H0 b = none ∧ ((l = [] ∧ H b = some (.ty TB (.box (.agg [.bp b 0 [], .v (.slice none 0 0)])))) ∨
    ∃ g, l ≠ [] ∧ H0 g = none ∧ g ≠ b ∧ H b = some (.ty TB (.box (.agg [.bp b 0 [], .slr g 1 0 l.length]))) ∧ H g = some (.ty e (.arr 1 (byteAVs l))))

/-- the row's new slice is stored back -/
theorem BldUsed.put {TB e : TypeId} {H0 H2 : Heap} {b g : Nat} {l : List UInt8} (hl : l ≠ []) (hle : ∀ c r, H0 c = some r → H2 c = some r) (h0 : H0 b = none) (hg0 : H0 g = none) (hgb : g ≠ b) (hg : H2 g = some (.ty e (.arr 1 (byteAVs l)))) :
    BldSt TB e H0 b l (H2.upd b (.ty TB (.box (.agg [.bp b 0 [], .slr g 1 0 l.length])))) :=
  ⟨fun c r hc => by rw [Heap.upd_other _ _ (fun e => by subst e; rw [h0] at hc; cases hc)]; exact hle c r hc, h0, .inr ⟨g, hl, hg0, hgb, Heap.upd_same _ _ _, by rw [Heap.upd_other _ _ hgb]; exact hg⟩⟩

theorem BldSt.new {TB e : TypeId} {H : Heap} {b : Nat} (hb : H b = none) : BldSt TB e H b [] (H.upd b (.ty TB (.box (.agg [.v (.pointer none), .v (.slice none 0 0)])))) :=
  ⟨Heap.le_upd hb, hb, .inl ⟨rfl, _, .inl rfl, Heap.upd_same _ _ _⟩⟩

end Go.Flow
