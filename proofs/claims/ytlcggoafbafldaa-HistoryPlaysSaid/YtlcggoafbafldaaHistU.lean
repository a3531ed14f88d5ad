/-
  The plain law: edits and their inverse; changes and what undoes them. No condition.
-/
import Derived.Test.YtlcggoafbafldaaHistR
set_option linter.unusedVariables false
set_option linter.unusedSimpArgs false
namespace Go.Flow
open Go Go.Proofs

/-! ### edits -/
theorem soundFrom_cons {n last : Int} {x : Edit} {r : List Edit} (h1 : 0 ≤ x.From) (h2 : x.From ≤ x.To) (h3 : x.To ≤ n) (h4 : ¬ (x.From = x.To ∧ x.Text = [])) (h5 : last < x.From) : soundFrom n last (x :: r) = soundFrom n x.To r := by
  rw [soundFrom, if_neg (by omega), if_neg h4, if_neg (by omega)]

/-- the text behind edits, undone from a place on: k bytes of the old text are done, k + more of the new one -/
theorem inv_from (s t : List UInt8) : ∀ (l : List Edit) (last more : Int) (k k' : Nat) (pre : List UInt8), soundFrom s.length last l = 0 → (k : Int) ≤ last + 1 → k ≤ s.length → (k' : Int) = k + more → pre.length = k' → t = pre ++ appFrom s k l →
    soundFrom t.length (last + more) (invFrom s more l) = 0 ∧ appFrom t k' (invFrom s more l) = s.drop k
  | [], last, more, k, k', pre, h, h1, h2, h3, h4, h5 => by
    refine ⟨rfl, ?_⟩
    rw [invFrom, appFrom, h5, appFrom, ← h4]
    simp
  | x :: r, last, more, k, k', pre, h, h1, h2, h3, h4, h5 => by
    obtain ⟨d1, d2, d3, d4, d5, d6⟩ := sound_cons h
    rw [appFrom] at h5
    have hF : (s.take x.From.toNat).drop k ++ (x.Text ++ appFrom s x.To.toNat r) = ((s.take x.From.toNat).drop k ++ x.Text) ++ appFrom s x.To.toNat r := by rw [List.append_assoc]
    have lF : ((s.take x.From.toNat).drop k).length = x.From.toNat - k := by rw [List.length_drop, List.length_take]; omega
    have h5' : t = (pre ++ ((s.take x.From.toNat).drop k ++ x.Text)) ++ appFrom s x.To.toNat r := by rw [h5, List.append_assoc, List.append_assoc]
    have hpl : (pre ++ ((s.take x.From.toNat).drop k ++ x.Text)).length = (x.From + more + x.Text.length).toNat := by
      rw [List.length_append, List.length_append, lF, h4]; omega
    obtain ⟨i1, i2⟩ := inv_from s t r x.To (more + (x.Text.length - (x.To - x.From))) x.To.toNat (x.From + more + x.Text.length).toNat _ d6 (by omega) (by omega) (by omega) hpl h5'
    have hlt : (x.From + more + x.Text.length).toNat ≤ t.length := by have h6 := congrArg List.length h5'; rw [List.length_append, hpl] at h6; omega
    have e1 : x.To + (more + (x.Text.length - (x.To - x.From))) = x.From + more + x.Text.length := by omega
    rw [e1] at i1
    rw [invFrom]
    refine ⟨?_, ?_⟩
    · rw [soundFrom_cons (by simp only; omega) (by simp only; omega) (by simp only; omega) ?_ (by simp only; omega)]
      · exact i1
      · rintro ⟨h6, h7⟩
        simp only at h6 h7
        have h8 : x.Text = [] := List.eq_nil_of_length_eq_zero (by omega)
        have h9 := congrArg List.length h7
        rw [List.length_drop, List.length_take, List.length_nil] at h9
        exact d4 ⟨by omega, h8⟩
    · rw [appFrom, i2]
      have e2 : (t.take (x.From + more).toNat).drop k' = (s.take x.From.toNat).drop k := by
        rw [h5, ← h4]
        have e3 : (x.From + more).toNat = pre.length + (x.From.toNat - k) := by omega
        rw [e3, List.take_length_add_append, List.drop_append_of_le_length (by omega), List.drop_eq_nil_of_le (Nat.le_refl _), List.nil_append, ← lF, List.take_left]
      simp only
      rw [e2]
      have e4 : s.drop k = (s.take x.From.toNat).drop k ++ s.drop x.From.toNat := by
        rw [← List.take_append_drop x.From.toNat s, List.drop_append_of_le_length (by rw [List.length_take]; omega)]
        simp [List.take_append_drop]
      have e5 : s.drop x.From.toNat = (s.take x.To.toNat).drop x.From.toNat ++ s.drop x.To.toNat := by
        have := List.take_append_drop x.To.toNat s
        rw [← this, List.drop_append_of_le_length (by rw [List.length_take]; omega)]
        simp
      rw [e4, e5]

theorem invFrom_length (s : List UInt8) : ∀ (l : List Edit) (more : Int), (invFrom s more l).length = l.length
  | [], _ => rfl
  | x :: r, more => by rw [invFrom, List.length_cons, List.length_cons, invFrom_length s r]

theorem sound_iff {l : List Edit} {n : Int} : Sound l n = 0 ↔ l.length ≤ 512 ∧ soundFrom n (-1) l = 0 := by
  rw [Sound]
  split
  · constructor
    · intro h; omega
    · intro h; omega
  · constructor
    · intro h; exact ⟨by omega, h⟩
    · intro h; exact h.2

/-- edits done, and undone -/
theorem edit_undone {s : List UInt8} {l : List Edit} (h : Sound l s.length = 0) : Apply (appFrom s 0 l) (invFrom s 0 l) = (s, 0) := by
  obtain ⟨h1, h2⟩ := sound_iff.1 h
  obtain ⟨i1, i2⟩ := inv_from s (appFrom s 0 l) l (-1) 0 0 0 [] h2 (by omega) (by omega) (by omega) rfl rfl
  rw [Apply, if_pos (sound_iff.2 ⟨by rw [invFrom_length]; exact h1, by simpa using i1⟩), i2]
  rfl

/-! ### changes -/
theorem findFrom_names (n : List UInt8) : ∀ (l l' : List Mod) (k : Nat), l.map (·.Name) = l'.map (·.Name) → findFrom k n l = findFrom k n l'
  | [], [], _, _ => rfl
  | [], _ :: _, _, h => by simp at h
  | _ :: _, [], _, h => by simp at h
  | m :: r, m' :: r', k, h => by
    simp only [List.map_cons, List.cons.injEq] at h
    rw [findFrom, findFrom, h.1, findFrom_names n r r' (k + 1) h.2]

theorem findMod_names {n : List UInt8} {l l' : List Mod} (h : l.map (·.Name) = l'.map (·.Name)) : findMod l n = findMod l' n := findFrom_names n l l' 0 h

theorem setText_some {x : List Mod} {i : Nat} {m : Mod} {t : List UInt8} (h : x[i]? = some m) : setText x i t = x.set i ⟨m.Name, t⟩ := by rw [setText, h]
theorem setText_none {x : List Mod} {i : Nat} {t : List UInt8} (h : x[i]? = none) : setText x i t = x := by rw [setText, h]
theorem setText_get_same {x : List Mod} {i : Nat} {m : Mod} {t : List UInt8} (h : x[i]? = some m) : (setText x i t)[i]? = some ⟨m.Name, t⟩ := by
  rw [setText_some h]
  have hi : i < x.length := by
    rcases Nat.lt_or_ge i x.length with h' | h'
    · exact h'
    · rw [List.getElem?_eq_none h'] at h; cases h
  simp [hi]
theorem setText_get_ne {x : List Mod} {i j : Nat} {t : List UInt8} (h : i ≠ j) : (setText x i t)[j]? = x[j]? := by
  cases hx : x[i]? with
  | none => rw [setText_none hx]
  | some m => rw [setText_some hx, List.getElem?_set_ne h]

theorem setText_names (x : List Mod) (i : Nat) (t : List UInt8) : (setText x i t).map (·.Name) = x.map (·.Name) := by
  apply List.ext_getElem?
  intro j
  rw [List.getElem?_map, List.getElem?_map]
  by_cases h : i = j
  · subst h
    cases hx : x[i]? with
    | none => rw [setText_none hx, hx]
    | some m => rw [setText_get_same hx]; rfl
  · rw [setText_get_ne h]

theorem find_setText (x : List Mod) (i : Nat) (t n : List UInt8) : findMod (setText x i t) n = findMod x n := findMod_names (setText_names x i t)
theorem textAt_same {x : List Mod} {i : Nat} {m : Mod} {t : List UInt8} (h : x[i]? = some m) : textAt (setText x i t) i = t := by rw [textAt, setText_get_same h]
theorem textAt_ne {x : List Mod} {i j : Nat} {t : List UInt8} (h : i ≠ j) : textAt (setText x i t) j = textAt x j := by rw [textAt, textAt, setText_get_ne h]

theorem setText_comm (x : List Mod) {i j : Nat} (t u : List UInt8) (h : i ≠ j) : setText (setText x i t) j u = setText (setText x j u) i t := by
  apply List.ext_getElem?
  intro k
  by_cases hi : i = k
  · subst hi
    rw [setText_get_ne (Ne.symm h)]
    cases hx : x[i]? with
    | none => rw [setText_none hx, setText_none (by rw [setText_get_ne (Ne.symm h)]; exact hx), setText_get_ne (Ne.symm h)]
    | some m => rw [setText_get_same hx, setText_get_same (m := m) (by rw [setText_get_ne (Ne.symm h)]; exact hx)]
  · rw [setText_get_ne (i := i) hi]
    by_cases hj : j = k
    · subst hj
      cases hx : x[j]? with
      | none => rw [setText_none hx, setText_none (by rw [setText_get_ne h]; exact hx), setText_get_ne h]
      | some m => rw [setText_get_same hx, setText_get_same (m := m) (by rw [setText_get_ne h]; exact hx)]
    · rw [setText_get_ne hj, setText_get_ne hj, setText_get_ne hi]

theorem setText_back {x : List Mod} {i : Nat} {m : Mod} {t : List UInt8} (h : x[i]? = some m) : setText (setText x i t) i m.Text = x := by
  apply List.ext_getElem?
  intro k
  by_cases hi : i = k
  · subst hi; rw [setText_get_same (setText_get_same h), h]
  · rw [setText_get_ne hi, setText_get_ne hi]

/-- a change, taken apart -/
theorem applyC_cons {x : List Mod} {seen : List (List UInt8)} {c : Change} {r : List Change} (h : (applyC x seen (c :: r)).2 = 0) :
    ∃ (i : Nat) (m : Mod), findMod x c.Module = i ∧ x[i]? = some m ∧ m.Name = c.Module ∧ c.Module ∉ seen ∧ Sound c.Edits m.Text.length = 0 ∧
      applyC x seen (c :: r) = applyC (setText x i (appFrom m.Text 0 c.Edits)) (seen ++ [c.Module]) r := by
  rw [applyC] at h
  split at h
  · simp at h
  · rename_i h1
    obtain ⟨i, m, h2, h3, h4⟩ := findMod_spec x c.Module h1
    have ht : textAt x (findMod x c.Module).toNat = m.Text := by rw [h2, Int.toNat_natCast, textAt, h3]
    split at h
    · simp at h
    · rename_i h5
      rw [ht] at h
      split at h
      · rename_i h6
        have hs : Sound c.Edits m.Text.length = 0 := by
          rw [Apply] at h6
          split at h6
          · assumption
          · exact h6
        refine ⟨i, m, h2, h3, h4, h5, hs, ?_⟩
        rw [applyC, if_neg h1, if_neg h5, ht, if_pos h6, h2, Int.toNat_natCast, Apply, if_pos hs]
      · rename_i h6; exact absurd h h6

theorem applyC_of {x : List Mod} {seen : List (List UInt8)} {c : Change} {r : List Change} {i : Nat} {t : List UInt8} (h1 : findMod x c.Module = i) (h2 : c.Module ∉ seen) (h3 : Apply (textAt x i) c.Edits = (t, 0)) :
    applyC x seen (c :: r) = applyC (setText x i t) (seen ++ [c.Module]) r := by
  rw [applyC, if_neg (by omega), if_neg h2, h1, Int.toNat_natCast, h3, if_pos rfl]

/-- what changes leave alone may be set ahead or behind -/
theorem applyC_set (i : Nat) (T : List UInt8) : ∀ (cs : List Change) (x : List Mod) (seen : List (List UInt8)), (∀ c ∈ cs, findMod x c.Module ≠ (i : Int)) → (applyC x seen cs).2 = 0 → applyC (setText x i T) seen cs = (setText (applyC x seen cs).1 i T, 0)
  | [], x, seen, _, _ => rfl
  | c :: r, x, seen, hu, h => by
    obtain ⟨j, m, h1, h2, h3, h4, h5, h6⟩ := applyC_cons h
    have hij : i ≠ j := fun e => hu c (by simp) (by rw [h1, e])
    rw [h6] at h ⊢
    rw [applyC_of (i := j) (t := appFrom m.Text 0 c.Edits) (by rw [find_setText]; exact h1) h4 (by rw [textAt_ne hij, textAt, h2, Apply, if_pos h5]), setText_comm x T _ hij]
    exact applyC_set i T r _ _ (fun c' hc' => by rw [find_setText]; exact hu c' (by simp [hc'])) h

theorem applyC_text (i : Nat) : ∀ (cs : List Change) (x : List Mod) (seen : List (List UInt8)), (∀ c ∈ cs, findMod x c.Module ≠ (i : Int)) → (applyC x seen cs).2 = 0 → textAt (applyC x seen cs).1 i = textAt x i
  | [], x, seen, _, _ => rfl
  | c :: r, x, seen, hu, h => by
    obtain ⟨j, m, h1, h2, h3, h4, h5, h6⟩ := applyC_cons h
    have hij : j ≠ i := fun e => hu c (by simp) (by rw [h1, e])
    rw [h6] at h ⊢
    rw [applyC_text i r _ _ (fun c' hc' => by rw [find_setText]; exact hu c' (by simp [hc'])) h, textAt_ne hij]

theorem applyC_names : ∀ (cs : List Change) (x : List Mod) (seen : List (List UInt8)), (applyC x seen cs).2 = 0 → (applyC x seen cs).1.map (·.Name) = x.map (·.Name)
  | [], x, seen, _ => rfl
  | c :: r, x, seen, h => by
    obtain ⟨j, m, h1, h2, h3, h4, h5, h6⟩ := applyC_cons h
    rw [h6] at h ⊢
    rw [applyC_names r _ _ h, setText_names]

/-- each change may be done to the text that there was ahead of all -/
theorem applyC_fit : ∀ (cs : List Change) (x : List Mod) (seen : List (List UInt8)), (applyC x seen cs).2 = 0 → ∀ c ∈ cs, c.Module ∉ seen ∧ ∃ (i : Nat) (m : Mod), findMod x c.Module = i ∧ x[i]? = some m ∧ m.Name = c.Module ∧ Sound c.Edits m.Text.length = 0
  | [], _, _, _, c, hc => by cases hc
  | c :: r, x, seen, h, c', hc' => by
    obtain ⟨j, m, h1, h2, h3, h4, h5, h6⟩ := applyC_cons h
    rcases List.mem_cons.1 hc' with rfl | hc'
    · exact ⟨h4, j, m, h1, h2, h3, h5⟩
    · rw [h6] at h
      obtain ⟨g1, i, m', g2, g3, g4, g5⟩ := applyC_fit r _ _ h c' hc'
      rw [find_setText] at g2
      have hne : c'.Module ≠ c.Module := fun e => g1 (by simp [e])
      have hij : j ≠ i := fun e => by
        subst e
        rw [setText_get_same h2] at g3
        cases g3
        exact hne (g4.symm.trans h3)
      rw [setText_get_ne hij] at g3
      exact ⟨fun hm => g1 (by simp [hm]), i, m', g2, g3, g4, g5⟩

theorem undoOf_cons (x : List Mod) (c : Change) (r : List Change) : undoOf x (c :: r) = ⟨c.Module, invFrom (textAt x (findMod x c.Module).toNat) 0 c.Edits⟩ :: undoOf x r := rfl

theorem undoOf_set {x : List Mod} {i : Nat} {t : List UInt8} {r : List Change} (h : ∀ c ∈ r, findMod x c.Module ≠ (i : Int) ∧ 0 ≤ findMod x c.Module) : undoOf (setText x i t) r = undoOf x r := by
  unfold undoOf
  apply List.map_congr_left
  intro c hc
  obtain ⟨h1, h2⟩ := h c hc
  rw [find_setText, textAt_ne (by omega)]

/-- changes done, and undone -/
theorem applyC_undone : ∀ (cs : List Change) (x : List Mod) (seen : List (List UInt8)), (applyC x seen cs).2 = 0 → applyC (applyC x seen cs).1 seen (undoOf x cs) = (x, 0)
  | [], x, seen, _ => rfl
  | c :: r, x, seen, h => by
    obtain ⟨i, m, h1, h2, h3, h4, h5, h6⟩ := applyC_cons h
    rw [h6] at h ⊢
    have hfit := applyC_fit r _ _ h
    have hothers : ∀ c' ∈ r, findMod x c'.Module ≠ (i : Int) ∧ 0 ≤ findMod x c'.Module := fun c' hc' => by
      obtain ⟨g1, j, m', g2, g3, g4, g5⟩ := hfit c' hc'
      rw [find_setText] at g2
      refine ⟨fun e => ?_, by omega⟩
      have hij : i = j := by omega
      subst hij
      rw [setText_get_same h2] at g3
      cases g3
      exact g1 (by simp [← g4, h3])
    have ih := applyC_undone r _ _ h
    have hu : undoOf (setText x i (appFrom m.Text 0 c.Edits)) r = undoOf x r := undoOf_set hothers
    rw [hu] at ih
    have hnames := applyC_names r _ _ h
    rw [setText_names] at hnames
    have htext : textAt (applyC (setText x i (appFrom m.Text 0 c.Edits)) (seen ++ [c.Module]) r).1 i = appFrom m.Text 0 c.Edits := by
      rw [applyC_text i r _ _ (fun c' hc' => by rw [find_setText]; exact (hothers c' hc').1) h, textAt_same h2]
    generalize hy : (applyC (setText x i (appFrom m.Text 0 c.Edits)) (seen ++ [c.Module]) r).1 = y at *
    have hxt : textAt x (findMod x c.Module).toNat = m.Text := by rw [h1, Int.toNat_natCast, textAt, h2]
    rw [undoOf_cons, hxt, applyC_of (c := ⟨c.Module, invFrom m.Text 0 c.Edits⟩) (i := i) (t := m.Text) (by rw [findMod_names hnames]; exact h1) h4 (by simp only; rw [htext]; exact edit_undone h5)]
    have hset := applyC_set i m.Text (undoOf x r) y (seen ++ [c.Module]) (fun c' hc' => by
      obtain ⟨c0, hc0, rfl⟩ := List.mem_map.1 hc'
      simp only
      rw [findMod_names hnames]
      exact (hothers c0 hc0).1) (by rw [ih])
    simp only at hset ⊢
    rw [hset, ih, setText_back h2]

/-! ### sizes -/
def Small (A : Nat) (x : List Mod) : Prop := ∀ m ∈ x, m.Text.length ≤ A

theorem Small.le {A B : Nat} {x : List Mod} (h : Small A x) (hab : A ≤ B) : Small B x := fun m hm => Nat.le_trans (h m hm) hab

theorem small_set {A : Nat} {x : List Mod} {i : Nat} {t : List UInt8} (h : Small A x) (ht : t.length ≤ A) : Small A (setText x i t) := fun m hm => by
  cases hx : x[i]? with
  | none => rw [setText_none hx] at hm; exact h m hm
  | some q =>
    rw [setText_some hx] at hm
    rcases List.mem_or_eq_of_mem_set hm with hm | rfl
    · exact h m hm
    · exact ht

theorem applyC_small : ∀ (cs : List Change) (x : List Mod) (seen : List (List UInt8)) (A : Nat), Small A x → (applyC x seen cs).2 = 0 → Small (A + sumC cs) (applyC x seen cs).1
  | [], x, seen, A, hA, _ => hA
  | c :: r, x, seen, A, hA, h => by
    obtain ⟨i, m, h1, h2, h3, h4, h5, h6⟩ := applyC_cons h
    rw [h6] at h ⊢
    have hm := hA m (List.mem_of_getElem? h2)
    have := app_length m.Text c.Edits (-1) 0 (sound_iff.1 h5).2 (by omega) (by omega)
    have := applyC_small r _ _ (A + sumT c.Edits) (small_set (hA.le (by omega)) (t := appFrom m.Text 0 c.Edits) (by omega)) h
    rw [sumC, ← Nat.add_assoc]
    exact this

theorem applyC_length {cs : List Change} {x : List Mod} {seen : List (List UInt8)} (h : (applyC x seen cs).2 = 0) : (applyC x seen cs).1.length = x.length := by
  have := congrArg List.length (applyC_names cs x seen h)
  simpa using this

theorem sumT_inv (s : List UInt8) : ∀ (l : List Edit) (more : Int), sumT (invFrom s more l) ≤ l.length * s.length
  | [], _ => by simp [invFrom, sumT]
  | x :: r, more => by
    have := sumT_inv s r (more + (x.Text.length - (x.To - x.From)))
    rw [invFrom, sumT, List.length_cons, Nat.add_mul]
    simp only [List.length_drop, List.length_take]
    omega

theorem sumC_undo {x : List Mod} {A E : Nat} (hA : Small A x) : ∀ (cs : List Change), (∀ c ∈ cs, c.Edits.length ≤ E) → sumC (undoOf x cs) ≤ cs.length * (E * A)
  | [], _ => by simp [undoOf, sumC]
  | c :: r, h => by
    have ih := sumC_undo hA r (fun c' hc' => h c' (by simp [hc']))
    have h1 := sumT_inv (textAt x (findMod x c.Module).toNat) c.Edits 0
    have h2 : (textAt x (findMod x c.Module).toNat).length ≤ A := by
      rw [textAt]
      split
      · rename_i m hm; exact hA m (List.mem_of_getElem? hm)
      · exact Nat.zero_le _
    have h3 : c.Edits.length * (textAt x (findMod x c.Module).toNat).length ≤ E * A := Nat.mul_le_mul (h c (by simp)) h2
    rw [undoOf_cons, sumC, List.length_cons, Nat.add_mul]
    simp only
    omega

theorem fitE_spec : ∀ (l : List Edit) (n m : Int), fitE n l = some m → n + sumT l ≤ m ∧ (l ≠ [] → m ≤ 200)
  | [], n, m, h => by simp [fitE] at h; simp [sumT, h]
  | x :: r, n, m, h => by
    rw [fitE] at h
    split at h
    · cases h
    · rename_i h1
      obtain ⟨h2, h3⟩ := fitE_spec r _ _ h
      refine ⟨by rw [sumT]; omega, fun _ => ?_⟩
      by_cases hr : r = []
      · subst hr; simp [fitE] at h; omega
      · exact h3 hr

theorem fitC_spec : ∀ (l : List Change) (n m : Int), fitC n l = some m → n + sumC l ≤ m ∧ ∀ c ∈ l, c.Edits.length ≤ 20
  | [], n, m, h => by simp [fitC] at h; simp [sumC, h]
  | c :: r, n, m, h => by
    rw [fitC] at h
    split at h
    · cases h
    · rename_i k hk
      split at h
      · cases h
      · obtain ⟨h1, _⟩ := fitE_spec _ _ _ hk
        obtain ⟨h2, h3⟩ := fitC_spec r _ _ h
        refine ⟨by rw [sumC]; omega, fun c' hc' => ?_⟩
        rcases List.mem_cons.1 hc' with rfl | hc'
        · omega
        · exact h3 c' hc'

theorem fits_spec {o : OpV} (h : Fits o = true) : sumC o.L ≤ 200 ∧ (∀ c ∈ o.L, c.Edits.length ≤ 20) ∧ o.L.length ≤ 8 := by
  rw [Fits] at h
  split at h
  · cases h
  · rename_i n hn
    obtain ⟨h1, h2⟩ := fitC_spec _ _ _ hn
    simp only [Bool.and_eq_true, decide_eq_true_eq] at h
    exact ⟨by omega, h2, h.2⟩

theorem lightFrom_spec : ∀ (l : List Mod) (n most : Int), lightFrom n most l = true → 0 ≤ n → ∀ m ∈ l, (m.Text.length : Int) ≤ most
  | [], _, _, _, _, m, hm => by cases hm
  | x :: r, n, most, h, h0, m, hm => by
    rw [lightFrom] at h
    split at h
    · cases h
    · rcases List.mem_cons.1 hm with rfl | hm
      · omega
      · exact lightFrom_spec r _ most h (by omega) m hm

theorem insR_mem {x y : Mod} : ∀ {l : List Mod}, y ∈ insR x l → y = x ∨ y ∈ l
  | [], h => by simp [insR] at h; exact .inl h
  | z :: r, h => by
    rw [insR] at h
    split at h
    · rcases List.mem_cons.1 h with h | h
      · exact .inr (by simp [h])
      · rcases insR_mem h with h | h
        · exact .inl h
        · exact .inr (by simp [h])
    · rcases List.mem_cons.1 h with h | h
      · exact .inl h
      · exact .inr h

theorem foldl_mem {y : Mod} : ∀ (l acc : List Mod), y ∈ l.foldl (fun acc x => insR x acc) acc → y ∈ acc ∨ y ∈ l
  | [], acc, h => .inl h
  | x :: r, acc, h => by
    rcases foldl_mem r _ h with h | h
    · rcases insR_mem h with h | h
      · exact .inr (by simp [h])
      · exact .inl h
    · exact .inr (by simp [h])

theorem sortMods_mem {y : Mod} {l : List Mod} (h : y ∈ sortMods l) : y ∈ l := by
  rw [sortMods, List.mem_reverse, sortR] at h
  rcases foldl_mem l [] h with h | h
  · cases h
  · exact h

theorem sortMods_length (l : List Mod) : (sortMods l).length = l.length := by rw [sortMods, List.length_reverse, sortR_length]

end Go.Flow

