/-
  Regions and functions over abstract values; a row or a variable that is no longer written. No condition.
-/
import Derived.Test.YtlcggoafbafldaaFlowI
set_option linter.unusedSectionVars false
set_option linter.unusedVariables false
set_option linter.unusedSimpArgs false
namespace Go.Flow
open Go

def Env.put (ρ : Env) (dst : Option Tmp) (x : AV) : Env :=
  match dst with
  | some d => (d, x) :: ρ
  | none => ρ

theorem Regs.put {I I' : Nat → Nat → Prop} {w w' : World} {N : Nat} {ρ : Env} {a : Act} {dst : Option Tmp} {x : AV} {y : Value} (h : Regs I w N ρ a) (hl : Lasts I w I' w') (hx : RepT I' w' x y) (hd : ∀ d, dst = some d → d < N) :
    Regs I' w' N (ρ.put dst x) (a.put dst y) := by
  cases dst with
  | none => exact h.lasts hl
  | some d =>
    have hdn := hd d rfl
    refine ⟨h.defers, by simp [Act.put, h.size], fun t => ?_⟩
    simp only [Env.put, Env.get, Act.put]
    by_cases e : t = d
    · subst e
      have : (a.tmps.setIfInBounds t y).getD t undef = y := by simp [h.size, hdn]
      rw [if_pos rfl, this]
      exact hx
    · have : (a.tmps.setIfInBounds d y).getD t undef = a.tmps.getD t undef := by
        simp [Array.getElem?_setIfInBounds_ne (Ne.symm e)]
      rw [if_neg e, this]
      exact RepT.lasts hl (h.rep t)

def aYield (ops : Array Oper) (ρ : Env) (j : Nat) : AV :=
  match (ops[j]?).bind (·.dst) with
  | some d => ρ.get d
  | none => .any

def aGuard (v : AV) (want : Bool) (run skip : Heap → Prop) (H : Heap) : Prop :=
  match v with
  | .v (.bool t) => (t = want → run H) ∧ (t ≠ want → skip H)
  | _ => False

/-- the operations of a region, in the text's order -/
def aOps (P : Program) (ops : Array Oper) (K : Env → Heap → Prop) : List Oper → Env → Heap → Prop
  | [], ρ, H => K ρ H
  | o :: r, ρ, H => match o.guard with
    | none => aOp P o.op ρ.eval H (fun x H' => aOps P ops K r (ρ.put o.dst x) H')
    | some (j, want) => aGuard (aYield ops ρ j) want (fun H => aOp P o.op ρ.eval H (fun x H' => aOps P ops K r (ρ.put o.dst x) H')) (fun H => aOps P ops K r (ρ.put o.dst .any) H) H

/-! What stands behind an operation: words that are not laid open (else a check of one step lays all later ones open). -/
theorem aRest_ex : ∃ f : Program → Array Oper → (Env → Heap → Prop) → List Oper → Option Tmp → Env → AV → Heap → Prop, ∀ P ops K r dst ρ x H, f P ops K r dst ρ x H = aOps P ops K r (ρ.put dst x) H := ⟨fun P ops K r dst ρ x H => aOps P ops K r (ρ.put dst x) H, fun _ _ _ _ _ _ _ _ => rfl⟩
noncomputable def aRest : Program → Array Oper → (Env → Heap → Prop) → List Oper → Option Tmp → Env → AV → Heap → Prop := Classical.choose aRest_ex
theorem aRun_ex : ∃ f : Program → Array Oper → (Env → Heap → Prop) → Op → List Oper → Option Tmp → Env → Heap → Prop, ∀ P ops K op r dst ρ H, f P ops K op r dst ρ H = aOp P op ρ.eval H (aRest P ops K r dst ρ) := ⟨fun P ops K op r dst ρ H => aOp P op ρ.eval H (aRest P ops K r dst ρ), fun _ _ _ _ _ _ _ _ => rfl⟩
noncomputable def aRun : Program → Array Oper → (Env → Heap → Prop) → Op → List Oper → Option Tmp → Env → Heap → Prop := Classical.choose aRun_ex
theorem aSkip_ex : ∃ f : Program → Array Oper → (Env → Heap → Prop) → List Oper → Option Tmp → Env → Heap → Prop, ∀ P ops K r dst ρ H, f P ops K r dst ρ H = aOps P ops K r (ρ.put dst .any) H := ⟨fun P ops K r dst ρ H => aOps P ops K r (ρ.put dst .any) H, fun _ _ _ _ _ _ _ => rfl⟩
noncomputable def aSkip : Program → Array Oper → (Env → Heap → Prop) → List Oper → Option Tmp → Env → Heap → Prop := Classical.choose aSkip_ex

section
variable {P : Program} {ops : Array Oper} {K : Env → Heap → Prop} {r : List Oper} {dst : Option Tmp} {op : Op} {ty : TypeId} {pos : String} {after : Array Edge} {ρ : Env} {H : Heap}
theorem aRest_eq {x : AV} : aRest P ops K r dst ρ x H = aOps P ops K r (ρ.put dst x) H := Classical.choose_spec aRest_ex P ops K r dst ρ x H
theorem aRun_eq : aRun P ops K op r dst ρ H = aOp P op ρ.eval H (aRest P ops K r dst ρ) := Classical.choose_spec aRun_ex P ops K op r dst ρ H
theorem aSkip_eq : aSkip P ops K r dst ρ H = aOps P ops K r (ρ.put dst .any) H := Classical.choose_spec aSkip_ex P ops K r dst ρ H
theorem aRest_fun : aRest P ops K r dst ρ = fun x H => aOps P ops K r (ρ.put dst x) H := by funext x H; exact aRest_eq
theorem aOps_nil : aOps P ops K [] ρ H = K ρ H := propext Iff.rfl
theorem aOps_plain : aOps P ops K (⟨dst, op, ty, pos, after, none⟩ :: r) ρ H = aOp P op ρ.eval H (aRest P ops K r dst ρ) := by rw [aRest_fun]; exact propext Iff.rfl
theorem aOps_guard {j : Nat} {want : Bool} : aOps P ops K (⟨dst, op, ty, pos, after, some (j, want)⟩ :: r) ρ H = aGuard (aYield ops ρ j) want (aRun P ops K op r dst ρ) (aSkip P ops K r dst ρ) H := by
  have e1 : aRun P ops K op r dst ρ = fun H => aOp P op ρ.eval H (fun x H' => aOps P ops K r (ρ.put dst x) H') := by funext H; rw [aRun_eq, aRest_fun]
  have e2 : aSkip P ops K r dst ρ = fun H => aOps P ops K r (ρ.put dst .any) H := by funext H; rw [aSkip_eq]
  rw [e1, e2]; exact propext Iff.rfl
end
theorem aGuard_tt {run skip : Heap → Prop} {H : Heap} : aGuard (.v (.bool true)) true run skip H = run H := by simp [aGuard]
theorem aGuard_tf {run skip : Heap → Prop} {H : Heap} : aGuard (.v (.bool true)) false run skip H = skip H := by simp [aGuard]
theorem aGuard_ft {run skip : Heap → Prop} {H : Heap} : aGuard (.v (.bool false)) true run skip H = skip H := by simp [aGuard]
theorem aGuard_ff {run skip : Heap → Prop} {H : Heap} : aGuard (.v (.bool false)) false run skip H = run H := by simp [aGuard]
theorem aGuard_split {t want : Bool} {run skip : Heap → Prop} {H : Heap} (h1 : t = want → run H) (h2 : t = (!want) → skip H) : aGuard (.v (.bool t)) want run skip H :=
  ⟨h1, fun h => h2 (by cases t <;> cases want <;> simp_all)⟩

def opsOk (N : Nat) (ops : List Oper) : Bool := ops.all fun o => match o.dst with | some d => decide (d < N) | none => true

theorem opsOk_mem {N : Nat} {ops : List Oper} (h : opsOk N ops = true) {o : Oper} (ho : o ∈ ops) : ∀ d, o.dst = some d → d < N := by
  intro d hd
  have := List.all_eq_true.1 h o ho
  simp only [hd, decide_eq_true_eq] at this
  exact this

theorem yielded_rep {I : Nat → Nat → Prop} {w : World} {N : Nat} {ρ : Env} {a : Act} {ops : Array Oper} {j : Nat} {t : Bool} (h : Regs I w N ρ a) (hy : aYield ops ρ j = .v (.bool t)) : yielded ops a.tmps j = some t := by
  unfold aYield at hy
  split at hy
  · rename_i d hd
    have := h.rep d
    rw [hy] at this
    simp only [RepT, RepV] at this
    unfold yielded
    rw [hd]
    have hlt : d < a.tmps.size := by
      rcases Nat.lt_or_ge d a.tmps.size with h' | h'
      · exact h'
      · have hn : a.tmps.getD d undef = undef := by simp [Array.getElem?_eq_none h']
        rw [hn] at this; cases this
    have e : a.tmps[d]? = some (.bool t) := by
      rw [Array.getElem?_eq_getElem hlt]
      have : a.tmps.getD d undef = a.tmps[d] := by simp [hlt]
      simp_all
    simp [e]
  · cases hy

/-- what is asked behind a region, of the concrete world -/
def Behind (I : Nat → Nat → Prop) (w : World) (H : Heap) (N : Nat) (K : Env → Heap → Prop) : Exit → Act → World → Prop := fun e a' w' =>
  e = .normal ∧ ∃ I' ρ' H', K ρ' H' ∧ Rel I' w' H' ∧ Regs I' w' N ρ' a' ∧ Ext I w H I' w' H'

theorem aOps_ok {P : Program} {ops : Array Oper} {K : Env → Heap → Prop} {N : Nat} : ∀ {l : List Oper} {ρ : Env} {H : Heap} {I : Nat → Nat → Prop} {w : World} {a : Act}, (∀ o ∈ l, ∀ d, o.dst = some d → d < N) →
    aOps P ops K l ρ H → Rel I w H → Regs I w N ρ a → wpList P ops (Behind I w H N K) l a w
  | [], ρ, H, I, w, a, _, h, hR, hG => ⟨rfl, I, ρ, H, h, hR, hG, Ext.refl⟩
  | o :: r, ρ, H, I, w, a, hd, h, hR, hG => by
    have run : ∀ (hw : Region.wanted o (yielded ops a.tmps) = true), aOp P o.op ρ.eval H (fun x H' => aOps P ops K r (ρ.put o.dst x) H') → wpList P ops (Behind I w H N K) (o :: r) a w := by
      intro hw h
      unfold wpList
      rw [if_pos hw]
      refine .inl (Oper.wp_mono ?_ (aOp_ok h hR hG))
      rintro a' w' ⟨y, x, I', H', rfl, hx, hk, hR', hE⟩
      have hG' := hG.put hE.lasts hx (hd o (by simp))
      have ih := aOps_ok (fun o ho => hd o (by simp [ho])) hk hR' hG'
      have : ∀ {l : List Oper} {a1 : Act} {w1 : World}, wpList P ops (Behind I' w' H' N K) l a1 w1 → wpList P ops (Behind I w H N K) l a1 w1 := by
        intro l
        induction l with
        | nil =>
          rintro a1 w1 ⟨e, I2, ρ2, H2, q1, q2, q3, q4⟩
          exact ⟨e, I2, ρ2, H2, q1, q2, q3, hE.trans q4⟩
        | cons o l ih =>
          intro a1 w1 h
          unfold wpList at h ⊢
          split
          · rename_i hw'
            rw [if_pos hw'] at h
            rcases h with h | ⟨h1, a2, w2, h2⟩
            · left
              have hQ : ∀ {o : Oper} {a : Act} {w : World} {K : Act → World → Prop} {Q Q' : Exit → Act → World → Prop}, (∀ e a w, Q e a w → Q' e a w) → o.wp P a w K Q → o.wp P a w K Q' := by
                intro o a w K Q Q' hq hh
                unfold Oper.wp at *
                generalize (execOp a.eval o).run P w = r at *
                cases r with
                | ok n w' =>
                  cases n <;> simp only [Oper.upon] at hh ⊢ <;> first
                    | exact hh
                    | exact Calls.mono hh (fun e w'' he => by
                        cases e <;> first
                          | exact he
                          | exact hq _ _ _ he
                          | (obtain ⟨a, w, h⟩ := he; exact ⟨a, w, hq _ _ _ h⟩))
                | halt x w' => cases x <;> simp only [Oper.upon] at hh ⊢ <;> first | exact hh | exact hq _ _ _ hh
              refine hQ ?_ (Oper.wp_mono (fun a w h => ih h) h)
              rintro e a3 w3 ⟨e1, I2, ρ2, H2, q1, q2, q3, q4⟩
              exact ⟨e1, I2, ρ2, H2, q1, q2, q3, hE.trans q4⟩
            · exact .inr ⟨h1, a2, w2, by obtain ⟨e1, _⟩ := h2; cases e1⟩
          · rename_i hw'
            rw [if_neg hw'] at h
            exact ih h
      exact this ih
    have skip : ∀ (hw : Region.wanted o (yielded ops a.tmps) = false), aOps P ops K r (ρ.put o.dst .any) H → wpList P ops (Behind I w H N K) (o :: r) a w := by
      intro hw h
      unfold wpList
      rw [if_neg (by rw [hw]; simp)]
      exact aOps_ok (fun o ho => hd o (by simp [ho])) h hR (hG.put ⟨fun _ _ h => ⟨h, rfl⟩, fun _ _ h => h⟩ (by simp [RepT, RepV]) (hd o (by simp)))
    unfold aOps at h
    split at h
    · rename_i hg
      exact run (by simp [Region.wanted, hg]) h
    · rename_i j want hg
      unfold aGuard at h
      split at h
      · rename_i t ht
        have hy := yielded_rep hG ht
        by_cases e : t = want
        · exact run (by simp [Region.wanted, hg, hy, e]) (h.1 e)
        · exact skip (by simp [Region.wanted, hg, hy, e]) (h.2 e)
      · exact h.elim

/-- a region in the text's order; the temporaries that are asked for behind it -/
theorem ACode.region {P : Program} {N : Nat} {Q : Exit → Env → Heap → Prop} {ρ : Env} {H : Heap} {id : Nat} {l : List Oper} (ts : List Nat) (hok : opsOk N l = true)
    (h : ∀ K : Env → Heap → Prop, (∀ ρ1 H1, Q .normal ρ1 H1 → ∀ ρ0, Env.keep ρ0 ts = ρ1 → K ρ0 H1) → aOps P l.toArray K l ρ H) : ACode P N (.region id l.toArray false) Q ρ H := by
  intro I w a hR hG
  have := aOps_ok (fun o ho => opsOk_mem hok ho) (h (fun ρ H => Q .normal (ρ.keep ts) H) (fun _ _ h _ e => e ▸ h)) hR hG
  refine Go.wp_mono (wp_region_lit this) ?_
  rintro e a' w' ⟨rfl, I', ρ', H', q, r1, r2, x1⟩
  exact ⟨I', _, H', q, r1, r2.weaken (Env.get_keep ts ρ'), x1⟩

/-- a region, and what is known behind it -/
theorem ACode.region_cut {P : Program} {N : Nat} {Q : Exit → Env → Heap → Prop} {ρ : Env} {H : Heap} {id : Nat} {l : List Oper} (ts : List Nat) (M : Env → Heap → Prop) (hok : opsOk N l = true)
    (h : ∀ K : Env → Heap → Prop, (∀ ρ1 H1, M ρ1 H1 → ∀ ρ0, Env.keep ρ0 ts = ρ1 → K ρ0 H1) → aOps P l.toArray K l ρ H) (h2 : ∀ ρ H, M ρ H → Q .normal ρ H) : ACode P N (.region id l.toArray false) Q ρ H :=
  .region ts hok fun K hK => h K fun ρ H hm => hK ρ H (h2 _ _ hm)

/-! ### functions -/
def argEnv : Nat → List AV → Env
  | _, [] => []
  | i, x :: r => (i, x) :: argEnv (i + 1) r

theorem argEnv_get : ∀ (l : List AV) (i t : Nat), (argEnv i l).get t = if i ≤ t then (l[t - i]?).getD .any else .any
  | [], i, t => by simp [argEnv, Env.get]
  | x :: r, i, t => by
    simp only [argEnv, Env.get]
    by_cases h : t = i
    · subst h; simp
    · rw [if_neg h, argEnv_get r (i + 1) t]
      by_cases h1 : i + 1 ≤ t
      · rw [if_pos h1, if_pos (by omega)]
        have : t - i = (t - (i + 1)) + 1 := by omega
        rw [this, List.getElem?_cons_succ]
      · rw [if_neg h1, if_neg (by omega)]

def shutV (vs : List Value) : Value :=
  match vs with
  | [v] => v
  | vs => .tuple vs.toArray

theorem shutV_eq (vs : List Value) : (if h : vs.toArray.size = 1 then vs.toArray[0] else Value.tuple vs.toArray) = shutV vs := by
  match vs with
  | [] => rfl
  | [v] => rfl
  | v :: u :: r => simp [shutV]

theorem run_results' {P : Program} {fn : Func} {tmps : Array Value} {w : World} (h : tmpsOnly fn.results.toList = true) :
    (results fn tmps).run P w = .ok (shutV (fn.results.toList.map fun | .tmp t => tmps.getD t undef | .cell _ _ => undef)) w := by
  rw [← shutV_eq]
  unfold results
  have : ∀ l : List ResultVar, tmpsOnly l = true → (l.mapM (fun | .tmp t => pure (tmps.getD t undef) | .cell a t => do loadVar t (← asAddr (tmps.getD a undef)) : ResultVar → Sem Value)).run P w =
      .ok (l.map fun | .tmp t => tmps.getD t undef | .cell _ _ => undef) w := by
    intro l
    induction l with
    | nil => intro _; simp
    | cons x r ih =>
      intro h
      simp only [tmpsOnly, List.all_cons, Bool.and_eq_true] at h
      cases x with
      | cell a t => simp at h
      | tmp t =>
        simp only [List.mapM_cons, Sem.run_bind, Sem.run_pure, Result.andThen_ok, ih h.2, List.map_cons]
  have e := this fn.results.toList h
  rw [Sem.run_bind, Array.mapM_eq_mapM_toList, Sem.run_map]
  exact (congrArg (fun r => (Result.andThen (Result.andThen r _) _)) e).trans rfl

theorem ACalls.of_code {P : Program} {f : FuncId} {fn : Func} {c : Code} {args : List AV} {H : Heap} {K : AV → Heap → Prop} (hf : P.funcs[f]? = some fn) (hb : fn.body = some c) (hn : (fn.name == "runtime.NumGoroutine") = false)
    (hr : tmpsOnly fn.results.toList = true) (hl : args.length ≤ fn.ntmps) (h : ACode P fn.ntmps c (retQ fn.results.toList K) (argEnv 0 args) H) : ACalls P f args H K := by
  refine ⟨⟨fn, hf, by simp [hb], hn⟩, fun I w vs hR hv => ?_⟩
  have hlen : ∀ {l : List AV} {cs : List Value}, RepVs I w l cs → cs.length = l.length := by
    intro l
    induction l with
    | nil => intro cs h; simp only [RepVs] at h; simp [h]
    | cons x r ih => intro cs h; simp only [RepVs] at h; obtain ⟨y, c2, rfl, _, h3⟩ := h; simp [ih h3]
  have hlv := hlen hv
  refine calls_of_wp hf hb (Go.wp_mono (h I w _ hR ?_) ?_)
  · refine ⟨rfl, by simp [hlv]; omega, fun t => ?_⟩
    rw [argEnv_get, if_pos (Nat.zero_le _), Nat.sub_zero]
    cases hx : args[t]? with
    | none => simp [RepT, RepV]
    | some x =>
      obtain ⟨v, hv1, hv2⟩ := RepVs.get hv hx
      have ht : t < vs.length := by
        rcases Nat.lt_or_ge t vs.length with h' | h'
        · exact h'
        · simp [List.getElem?_eq_none h'] at hv1
      have : (vs.toArray ++ Array.replicate (fn.ntmps - vs.toArray.size) undef).getD t undef = v := by
        simp [Array.getElem?_append, ht, hv1]
        rw [List.getElem?_eq_getElem ht] at hv1
        exact Option.some.inj hv1
      rw [this]
      exact .of_V hv2
  · rintro e a' w' ⟨I', ρ', H', q, r1, r2, x1⟩
    have fin : K (resAV fn.results.toList ρ') H' → bodyPost P fn (fun e w' => ∃ y, e = .returned y ∧ ∃ I' x H', K x H' ∧ RepT I' w' x y ∧ Rel I' w' H' ∧ Ext I w H I' w' H') .ret a' w' := by
      intro hk
      refine ⟨r2.defers, _, run_results' hr, _, rfl, I', _, H', hk, ?_, r1, x1⟩
      have hreg := r2.rep
      clear hk
      generalize fn.results.toList = l at hr
      match l, hr with
      | [], _ => simp [resAV, RepT, RepVs, shutV]
      | [.tmp t], _ => exact hreg t
      | x :: y :: l, hr =>
        have e1 : resAV (x :: y :: l) ρ' = .tup ((x :: y :: l).map fun | .tmp t => untup (ρ'.get t) | .cell _ _ => .any) := by
          cases x <;> rfl
        rw [e1]
        refine ⟨_, rfl, ?_⟩
        have key : ∀ q : List ResultVar, RepVs I' w' (q.map fun | .tmp t => untup (ρ'.get t) | .cell _ _ => .any) (q.map fun | .tmp t => a'.tmps.getD t undef | .cell _ _ => undef) := by
          intro q
          induction q with
          | nil => simp [RepVs]
          | cons z q ih =>
            simp only [List.map_cons, RepVs]
            refine ⟨_, _, rfl, ?_, ih⟩
            cases z with
            | cell _ _ => simp [RepV]
            | tmp t =>
              have ht := hreg t
              simp only []
              generalize ρ'.get t = av at ht
              cases av <;> first | exact ht | simp [untup, RepV]
        exact key _
    cases e <;> simp only [retQ] at q
    · exact fin q
    · exact fin q

end Go.Flow
