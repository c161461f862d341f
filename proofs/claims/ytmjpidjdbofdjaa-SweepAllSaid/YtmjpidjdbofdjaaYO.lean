import Derived.Test.YtmjpidjdbofdjaaYN
/- Sy, part O: the rule for a region that draws its order: operations that tell values, in any order, among others that change the state, one behind the other. -/
set_option linter.unusedVariables false
set_option linter.unusedSimpArgs false
namespace Go.Sy
open Go

/-- Does it change the state? -/
def effO (o : Oper) : Bool :=
  match o.op, o.guard with
  | .store .., none | .alloc _, none | .box .., none => true
  | _, _ => false
/-- How many that change the state stand ahead of a place. -/
def stg (ops : List Oper) : Nat → Nat
  | 0 => 0
  | i + 1 => match ops[i]? with
    | some o => match effO o with | true => stg ops i + 1 | false => stg ops i
    | none => stg ops i
theorem stg_succ {ops : List Oper} {i : Nat} {o : Oper} (h : ops[i]? = some o) : stg ops (i + 1) = if effO o = true then stg ops i + 1 else stg ops i := by
  simp only [stg, h]; cases effO o <;> rfl
theorem stg_mono (ops : List Oper) : ∀ {i j : Nat}, i ≤ j → stg ops i ≤ stg ops j := by
  intro i j h
  induction h with
  | refl => exact Nat.le_refl _
  | step h ih =>
    refine Nat.le_trans ih ?_
    rename_i m
    simp only [stg]
    split
    · split <;> omega
    · exact Nat.le_refl _
theorem stg_inj {ops : List Oper} {i j : Nat} {o p : Oper} (hi : ops[i]? = some o) (hj : ops[j]? = some p) (ho : effO o = true) (hp : effO p = true) (h : stg ops i = stg ops j) : i = j := by
  rcases Nat.lt_trichotomy i j with hlt | heq | hgt
  · have h1 := stg_mono ops (show i + 1 ≤ j from hlt)
    rw [stg_succ hi, if_pos ho] at h1; omega
  · exact heq
  · have h1 := stg_mono ops (show j + 1 ≤ i from hgt)
    rw [stg_succ hj, if_pos hp] at h1; omega
def DetE (F : (SV → Hp → Prop) → Prop) : Prop := ∀ k, F k → ∃ s H', k s H' ∧ ∀ k', k' s H' → F k'
theorem detE_nd {α : Type} {o : Option α} {F : α → (SV → Hp → Prop) → Prop} (h : ∀ a, DetE (F a)) : DetE (fun k => nd o fun a => F a k) := by
  intro k hk
  obtain ⟨a, rfl, hk⟩ := nd_elim hk
  obtain ⟨s, H', h1, h2⟩ := h a k hk
  exact ⟨s, H', h1, fun k' hk' => h2 k' hk'⟩
theorem detE_eff {T : List TI} {P : Program} {o : Oper} (h : effO o = true) (E : Env) (H : Hp) : DetE (opC T P o E H) := by
  unfold effO at h
  unfold opC
  split at h
  · rename_i e1 e2
    simp only [e1, opS]
    refine detE_nd fun i => detE_nd fun s => detE_nd fun y => ?_
    intro k hk
    unfold stS at hk
    split at hk
    case h_2 => exact hk.elim
    rename_i hb1 hb2
    split at hk
    · replace hk := nd_elim hk
      obtain ⟨x, hx, hk⟩ := hk
      split at hk
      case h_2 => exact hk.elim
      replace hk := nd_elim hk
      obtain ⟨cs, hcs, hk⟩ := hk
      rw [lf_eq] at hk
      refine ⟨_, _, setBox_eq hk, fun k' hk' => ?_⟩
      unfold stS
      simp only [hb1, hb2, hx, nd, hcs, lf_eq]
      cases H
      simp only [setBox, lf_eq]
      exact hk'
    · replace hk := nd_elim hk
      obtain ⟨r, hr, hA, hf, m, f, hmf, hk⟩ := hk
      replace hk := nd_elim hk
      obtain ⟨e, he, hk⟩ := hk
      replace hk := nd_elim hk
      obtain ⟨e', he', hk⟩ := hk
      refine ⟨_, _, setRow_eq hk, fun k' hk' => ?_⟩
      unfold stS
      simp only [hb1, hb2, hr, nd]
      refine ⟨hA, hf, m, f, hmf, ?_⟩
      simp only [he, he']
      cases H
      simp only [setRow, lf_eq]
      exact hk'
    · exact hk.elim
  · rename_i e1 e2
    simp only [e1, opS]
    refine detE_nd fun i => detE_nd fun z => ?_
    intro k hk
    rw [lf_eq] at hk
    refine ⟨_, _, addBx_eq hk, fun k' hk' => ?_⟩
    cases H
    simp only [lf_eq, addBx]
    exact hk'
  · rename_i e1 e2
    simp only [e1, opS]
    refine detE_nd fun s => ?_
    intro k hk
    rw [lf_eq] at hk
    refine ⟨_, _, addBx_eq hk, fun k' hk' => ?_⟩
    cases H
    simp only [lf_eq, addBx]
    exact hk'
  · cases h
theorem eff_nodefer {o : Oper} (h : effO o = true) : o.guard = none ∧ (∀ c, o.op ≠ .defer c) := by
  unfold effO at h
  split at h
  · rename_i e1 e2; exact ⟨e2, fun c => by rw [e1]; simp⟩
  · rename_i e1 e2; exact ⟨e2, fun c => by rw [e1]; simp⟩
  · rename_i e1 e2; exact ⟨e2, fun c => by rw [e1]; simp⟩
  · cases h

/-- Does what it tells hang on the state? -/
def reads (o : Oper) : Bool :=
  match o.op with
  | .call c => match c.callee with
    | .builtin .min | .builtin .max => false
    | _ => true
  | op => !agnOp op
/-- In the text's order: what the operations tell, the states between those that change it. -/
noncomputable def vcText (T : List TI) (P : Program) (ops : List Oper) (Em : List (Nat × SV)) (Ds : List SV) (l : List Oper) : List SV → List Hp → Hp → (List SV → List Hp → Hp → Prop) → Prop :=
  List.rec (motive := fun _ => List SV → List Hp → Hp → (List SV → List Hp → Hp → Prop) → Prop) (fun σ Hs H K => K σ Hs H)
    (fun o _ next σ Hs H K => match effO o with
      | true => opC T P o ⟨depTs ops σ (bnds o.after.toList) Em, Ds⟩ H fun s H' => lf (σ ++ [s]) fun σ => lf (Hs ++ [H']) fun Hs => next σ Hs H' K
      | false => stepQ T P ops o ⟨depTs ops σ (bnds o.after.toList) Em, Ds⟩ H fun s => lf (σ ++ [s]) fun σ => next σ Hs H K) l
theorem vcText_cons {T : List TI} {P : Program} {ops : List Oper} {Em : List (Nat × SV)} {Ds : List SV} {o : Oper} {r : List Oper} {σ : List SV} {Hs : List Hp} {H : Hp} {K : List SV → List Hp → Hp → Prop} :
    vcText T P ops Em Ds (o :: r) σ Hs H K = (match effO o with
      | true => opC T P o ⟨depTs ops σ (bnds o.after.toList) Em, Ds⟩ H fun s H' => lf (σ ++ [s]) fun σ => lf (Hs ++ [H']) fun Hs => vcText T P ops Em Ds r σ Hs H' K
      | false => stepQ T P ops o ⟨depTs ops σ (bnds o.after.toList) Em, Ds⟩ H fun s => lf (σ ++ [s]) fun σ => vcText T P ops Em Ds r σ Hs H K) := rfl
/-- May it come up where j of those that change the state are done? -/
def loOk (ops : List Oper) (j : Nat) : List Edge → Bool
  | [] => true
  | e :: r => match ops[e.on]? with
    | some p => match effO p with
      | true => match Nat.blt (stg ops e.on) j with | true => loOk ops j r | false => false
      | false => loOk ops j r
    | none => loOk ops j r
def hiOk (ops : List Oper) (i j : Nat) : Nat → List Oper → Bool
  | _, [] => true
  | k, p :: r => match effO p with
    | true => match isIn i ((bnds p.after.toList).map (·.on)) with
      | true => match Nat.ble j (stg ops k) with | true => hiOk ops i j (k + 1) r | false => false
      | false => hiOk ops i j (k + 1) r
    | false => hiOk ops i j (k + 1) r
/-- What is asked of an operation that looks at the state: it tells the same wherever it may come up. -/
noncomputable def chkJ (T : List TI) (P : Program) (ops : List Oper) (i : Nat) (o : Oper) (E : Env) (s : SV) (k : Prop) (Hs : List Hp) : Nat → Prop :=
  List.rec (motive := fun _ => Nat → Prop) (fun _ => k)
    (fun H _ next j => match loOk ops j (bnds o.after.toList) with
      | true => match hiOk ops i j 0 ops with
        | true => stepQ T P ops o E H (fun s' => s' = s) ∧ next (j + 1)
        | false => next (j + 1)
      | false => next (j + 1)) Hs
noncomputable def chkI (T : List TI) (P : Program) (ops : List Oper) (Em : List (Nat × SV)) (Ds : List SV) (σ : List SV) (Hs : List Hp) (k : Prop) (l : List Oper) : Nat → Prop :=
  List.rec (motive := fun _ => Nat → Prop) (fun _ => k)
    (fun o _ next i => match effO o with
      | true => next (i + 1)
      | false => match reads o with
        | true => nd (nth σ i) fun s => chkJ T P ops i o ⟨depTs ops σ (bnds o.after.toList) Em, Ds⟩ s (next (i + 1)) Hs 0
        | false => next (i + 1)) l
/-- (If none changes the state, nothing is asked.) -/
noncomputable def chkA (T : List TI) (P : Program) (ops : List Oper) (Em : List (Nat × SV)) (Ds : List SV) (σ : List SV) (Hs : List Hp) (k : Prop) : Prop :=
  match Hs with
  | [_] => k
  | _ => chkI T P ops Em Ds σ Hs k ops 0
/-- Each that changes the state waits for the one ahead of it. -/
def chainOk (ops : List Oper) : Nat → List Oper → Bool
  | _, [] => true
  | i, o :: r => match effO o with
    | true => match Nat.beq (stg ops i) 0 with
      | true => chainOk ops (i + 1) r
      | false => match (bnds o.after.toList).any (fun e => match ops[e.on]? with | some p => effO p && Nat.beq (stg ops e.on + 1) (stg ops i) | none => false) with
        | true => chainOk ops (i + 1) r
        | false => false
    | false => chainOk ops (i + 1) r
def parOkG (n : Nat) (ops : List Oper) : Bool := match parOk n ops with | true => chainOk ops 0 ops | false => false

section
variable {P : Program} {T : List TI}
theorem loOk_of {ops : List Oper} {j : Nat} : ∀ {l : List Edge}, (∀ e ∈ l, ∀ p, ops[e.on]? = some p → effO p = true → stg ops e.on < j) → loOk ops j l = true
  | [], _ => rfl
  | e :: r, h => by
    simp only [loOk]
    have ih := loOk_of (l := r) fun e' he => h e' (List.mem_cons_of_mem _ he)
    split
    · rename_i p hp
      split
      · rename_i hep
        have := h e (List.mem_cons_self ..) p hp hep
        rw [show Nat.blt (stg ops e.on) j = true by rw [Nat.blt_eq]; exact this]
        exact ih
      · exact ih
    · exact ih
theorem hiOk_of {ops : List Oper} {i j : Nat} : ∀ {l : List Oper} (k : Nat), (∀ m p, l[m]? = some p → ops[k + m]? = some p) → (∀ m p, ops[m]? = some p → effO p = true → (∃ e ∈ bnds p.after.toList, e.on = i) → j ≤ stg ops m) → hiOk ops i j k l = true
  | [], _, _, _ => rfl
  | p :: r, k, hl, h => by
    simp only [hiOk]
    have hl' : ∀ m q, r[m]? = some q → ops[k + 1 + m]? = some q := fun m q hm => by rw [show k + 1 + m = k + (m + 1) by omega]; exact hl (m + 1) q hm
    have ih := hiOk_of (l := r) (k + 1) hl' h
    split
    · rename_i hep
      split
      · rename_i hin
        have h1 := h k p (by have := hl 0 p rfl; simpa using this) hep (on_of hin)
        rw [Nat.ble_eq_true_of_le h1]
        exact ih
      · exact ih
    · exact ih
theorem chkJ_elim {ops : List Oper} {i : Nat} {o : Oper} {E : Env} {s : SV} {k : Prop} : ∀ {Hs : List Hp} {j0 : Nat}, chkJ T P ops i o E s k Hs j0 → k ∧ ∀ (j : Nat) (H : Hp), Hs[j]? = some H → loOk ops (j0 + j) (bnds o.after.toList) = true → hiOk ops i (j0 + j) 0 ops = true → stepQ T P ops o E H (fun s' => s' = s)
  | [], j0, h => ⟨h, fun j H hj => by simp at hj⟩
  | H :: r, j0, h => by
    have h : (match loOk ops j0 (bnds o.after.toList) with
      | true => match hiOk ops i j0 0 ops with
        | true => stepQ T P ops o E H (fun s' => s' = s) ∧ chkJ T P ops i o E s k r (j0 + 1)
        | false => chkJ T P ops i o E s k r (j0 + 1)
      | false => chkJ T P ops i o E s k r (j0 + 1)) := h
    have tail : chkJ T P ops i o E s k r (j0 + 1) → (loOk ops j0 (bnds o.after.toList) = true → hiOk ops i j0 0 ops = true → stepQ T P ops o E H (fun s' => s' = s)) →
        k ∧ ∀ (j : Nat) (H' : Hp), (H :: r)[j]? = some H' → loOk ops (j0 + j) (bnds o.after.toList) = true → hiOk ops i (j0 + j) 0 ops = true → stepQ T P ops o E H' (fun s' => s' = s) := by
      intro h1 h2
      obtain ⟨h3, h4⟩ := chkJ_elim h1
      refine ⟨h3, fun j H' hj hl hh => ?_⟩
      cases j with
      | zero => simp at hj; subst hj; exact h2 hl hh
      | succ j => simp at hj; exact h4 j H' hj (by rw [show j0 + 1 + j = j0 + (j + 1) by omega]; exact hl) (by rw [show j0 + 1 + j = j0 + (j + 1) by omega]; exact hh)
    split at h
    · split at h
      · exact tail h.2 fun _ _ => h.1
      · rename_i hf; exact tail h fun _ hh => by rw [hh] at hf; cases hf
    · rename_i hf; exact tail h fun hl _ => by rw [hl] at hf; cases hf
theorem chkI_elim {ops : List Oper} {Em : List (Nat × SV)} {Ds : List SV} {σ : List SV} {Hs : List Hp} {k : Prop} : ∀ {l : List Oper} {i0 : Nat}, chkI T P ops Em Ds σ Hs k l i0 → k ∧ ∀ (i : Nat) (o : Oper) (s : SV), l[i]? = some o → effO o = false → reads o = true → σ[i0 + i]? = some s →
    ∀ (j : Nat) (H : Hp), Hs[j]? = some H → loOk ops j (bnds o.after.toList) = true → hiOk ops (i0 + i) j 0 ops = true → stepQ T P ops o ⟨depTs ops σ (bnds o.after.toList) Em, Ds⟩ H (fun s' => s' = s)
  | [], i0, h => ⟨h, fun i o s ho => by simp at ho⟩
  | o :: r, i0, h => by
    have h : (match effO o with
      | true => chkI T P ops Em Ds σ Hs k r (i0 + 1)
      | false => match reads o with
        | true => nd (nth σ i0) fun s => chkJ T P ops i0 o ⟨depTs ops σ (bnds o.after.toList) Em, Ds⟩ s (chkI T P ops Em Ds σ Hs k r (i0 + 1)) Hs 0
        | false => chkI T P ops Em Ds σ Hs k r (i0 + 1)) := h
    have tail : chkI T P ops Em Ds σ Hs k r (i0 + 1) → (∀ s, effO o = false → reads o = true → σ[i0]? = some s → ∀ (j : Nat) (H : Hp), Hs[j]? = some H → loOk ops j (bnds o.after.toList) = true → hiOk ops i0 j 0 ops = true → stepQ T P ops o ⟨depTs ops σ (bnds o.after.toList) Em, Ds⟩ H (fun s' => s' = s)) →
        k ∧ ∀ (i : Nat) (o' : Oper) (s : SV), (o :: r)[i]? = some o' → effO o' = false → reads o' = true → σ[i0 + i]? = some s →
          ∀ (j : Nat) (H : Hp), Hs[j]? = some H → loOk ops j (bnds o'.after.toList) = true → hiOk ops (i0 + i) j 0 ops = true → stepQ T P ops o' ⟨depTs ops σ (bnds o'.after.toList) Em, Ds⟩ H (fun s' => s' = s) := by
      intro h1 h2
      obtain ⟨h3, h4⟩ := chkI_elim h1
      refine ⟨h3, fun i o' s ho => ?_⟩
      cases i with
      | zero => simp at ho; subst ho; exact h2 s
      | succ i => simp at ho; rw [show i0 + (i + 1) = i0 + 1 + i by omega]; exact h4 i o' s ho
    split at h
    · rename_i he; exact tail h fun s hf => by rw [he] at hf; cases hf
    · split at h
      · obtain ⟨s0, hs0, h⟩ := nd_elim h
        rw [nth_eq] at hs0
        obtain ⟨h1, h2⟩ := chkJ_elim h
        refine tail h1 fun s _ _ hs j H hj hl hh => ?_
        rw [hs0] at hs
        injection hs with hs
        subst hs
        exact h2 j H hj (by rw [Nat.zero_add]; exact hl) (by rw [Nat.zero_add]; exact hh)
      · rename_i hf; exact tail h fun s _ hr => by rw [hr] at hf; cases hf
theorem chainOk_eq {ops : List Oper} : ∀ {l : List Oper} {i0 : Nat}, chainOk ops i0 l = true → ∀ (i : Nat) (o : Oper), l[i]? = some o → effO o = true → stg ops (i0 + i) ≠ 0 → ∃ e ∈ bnds o.after.toList, ∃ p, ops[e.on]? = some p ∧ effO p = true ∧ stg ops e.on + 1 = stg ops (i0 + i)
  | [], _, _, i, o, h => by simp at h
  | x :: r, i0, h, i, o, ho => by
    simp only [chainOk] at h
    have tail : chainOk ops (i0 + 1) r = true → (effO x = true → stg ops i0 ≠ 0 → ∃ e ∈ bnds x.after.toList, ∃ p, ops[e.on]? = some p ∧ effO p = true ∧ stg ops e.on + 1 = stg ops i0) → effO o = true → stg ops (i0 + i) ≠ 0 → ∃ e ∈ bnds o.after.toList, ∃ p, ops[e.on]? = some p ∧ effO p = true ∧ stg ops e.on + 1 = stg ops (i0 + i) := by
      intro h1 h2
      cases i with
      | zero => simp at ho; subst ho; exact h2
      | succ i => simp at ho; rw [show i0 + (i + 1) = i0 + 1 + i by omega]; exact chainOk_eq h1 i o ho
    split at h
    · rename_i hx
      split at h
      · rename_i hz
        exact tail h fun _ hne => absurd (Nat.eq_of_beq_eq_true hz) hne
      · split at h
        · rename_i hany
          refine tail h fun _ _ => ?_
          obtain ⟨e, he, h3⟩ := List.any_eq_true.1 hany
          split at h3
          · rename_i p hp
            rw [Bool.and_eq_true] at h3
            exact ⟨e, he, p, hp, h3.1, Nat.eq_of_beq_eq_true h3.2⟩
          · cases h3
        · cases h
    · rename_i hx; exact tail h fun hf => by rw [hf] at hx; cases hx
end
end Go.Sy

