import Derived.Test.YtmjpidjdbofdjaaGreatYR
/- Sy, part S: a region that draws its order, with operations that change the state in whatever order: each order of these is walked. -/
set_option linter.unusedVariables false
set_option linter.unusedSimpArgs false
namespace Go.Sy
open Go
section
variable {P : Program} {T : List TI}
/-- What the operations waited for have told. -/
def depO (ops : List Oper) (σ : List (Option SV)) : List Edge → List (Nat × SV) → List (Nat × SV)
  | [], E => E
  | e :: r, E => match dstOf ops e.on with
    | some d => match nth σ e.on with
      | some (some s) => (d, s) :: depO ops σ r E
      | _ => depO ops σ r E
    | none => depO ops σ r E
def rdy (σ : List (Option SV)) : List Edge → Bool
  | [] => true
  | e :: r => match nth σ e.on with
    | some (some _) => rdy σ r
    | _ => false
theorem rdy_eq {σ : List (Option SV)} : ∀ {l : List Edge}, rdy σ l = true ↔ ∀ e ∈ l, ∃ s, σ[e.on]? = some (some s)
  | [] => by simp [rdy]
  | e :: r => by
    simp only [rdy]
    rw [nth_eq]
    constructor
    · intro h
      split at h
      · rename_i s hs
        intro e' he
        rcases List.mem_cons.1 he with rfl | he
        · exact ⟨s, hs⟩
        · exact rdy_eq.1 h e' he
      · cases h
    · intro h
      obtain ⟨s, hs⟩ := h e (List.mem_cons_self ..)
      rw [hs]
      exact rdy_eq.2 fun e' he => h e' (List.mem_cons_of_mem _ he)
theorem depO_get {ops : List Oper} {σ : List (Option SV)} : ∀ {l : List Edge} {E : List (Nat × SV)} {t : Nat} {s : SV}, get (depO ops σ l E) t = some s →
    (∃ e ∈ l, ∃ o, ops[e.on]? = some o ∧ o.dst = some t ∧ σ[e.on]? = some (some s)) ∨ get E t = some s
  | [], E, t, s, h => .inr (by simpa [depO] using h)
  | e :: r, E, t, s, h => by
    simp only [depO] at h
    have rec_ : get (depO ops σ r E) t = some s → (∃ e' ∈ e :: r, ∃ o, ops[e'.on]? = some o ∧ o.dst = some t ∧ σ[e'.on]? = some (some s)) ∨ get E t = some s := by
      intro h
      rcases depO_get h with ⟨e', he, h⟩ | h
      · exact .inl ⟨e', by simp [he], h⟩
      · exact .inr h
    split at h
    · rename_i d hd
      rw [dstOf_eq] at hd
      obtain ⟨o, ho, hod⟩ := Option.bind_eq_some_iff.1 hd
      split at h
      · rename_i u hu
        rw [nth_eq] at hu
        simp only [get] at h
        split at h
        · rename_i hb
          injection h with h; subst h
          exact .inl ⟨e, by simp, o, ho, by rw [hod, Nat.eq_of_beq_eq_true hb], hu⟩
        · exact rec_ h
      · exact rec_ h
    · exact rec_ h
theorem depO_congr {ops : List Oper} {σ σ' : List (Option SV)} : ∀ {l : List Edge} {E : List (Nat × SV)}, (∀ e ∈ l, nth σ e.on = nth σ' e.on) → depO ops σ l E = depO ops σ' l E
  | [], _, _ => rfl
  | e :: r, E, h => by
    simp only [depO]
    rw [h e (by simp), depO_congr (fun e he => h e (by simp [he]))]
def fullO : List Oper → List (Option SV) → List (Nat × SV) → List (Nat × SV)
  | o :: r, s :: σ, E => match s, o.dst with
    | some s, some d => (d, s) :: fullO r σ E
    | _, _ => fullO r σ E
  | _, _, E => E
theorem fullO_get : ∀ {ops : List Oper} {σ : List (Option SV)} {E : List (Nat × SV)} {t : Nat} {s : SV}, get (fullO ops σ E) t = some s → (∃ (j : Nat) (o : Oper), ops[j]? = some o ∧ o.dst = some t ∧ σ[j]? = some (some s)) ∨ get E t = some s
  | [], σ, E, t, s, h => .inr (by simpa [fullO] using h)
  | o :: r, [], E, t, s, h => .inr (by simpa [fullO] using h)
  | o :: r, u :: σ, E, t, s, h => by
    simp only [fullO] at h
    have rec_ : get (fullO r σ E) t = some s → (∃ (j : Nat) (p : Oper), (o :: r)[j]? = some p ∧ p.dst = some t ∧ (u :: σ)[j]? = some (some s)) ∨ get E t = some s := by
      intro h
      rcases fullO_get h with ⟨j, p, h1, h2, h3⟩ | h
      · exact .inl ⟨j + 1, p, by simpa using h1, h2, by simpa using h3⟩
      · exact .inr h
    split at h
    · rename_i s' d hd
      simp only [get] at h
      split at h
      · rename_i hb
        injection h with h; subst h
        exact .inl ⟨0, o, rfl, by rw [hd, Nat.eq_of_beq_eq_true hb], rfl⟩
      · exact rec_ h
    · exact rec_ h
/-- Does one of those that are done, and change the state, wait for it? -/
def froz (ops : List Oper) (σ : List (Option SV)) (i : Nat) : List Nat → Bool
  | [] => false
  | e :: r => match nth σ e with
    | some (some _) => match ops[e]? with
      | some p => match isIn i ((bnds p.after.toList).map (·.on)) with
        | true => true
        | false => froz ops σ i r
      | none => froz ops σ i r
    | _ => froz ops σ i r
/-- What can be told here is told. -/
noncomputable def cloT (T : List TI) (P : Program) (ops : List Oper) (es : List Nat) (Em : List (Nat × SV)) (Ds : List SV) (H : Hp) (l : List Oper) : Nat → List (Option SV) → (List (Option SV) → Prop) → Prop :=
  List.rec (motive := fun _ => Nat → List (Option SV) → (List (Option SV) → Prop) → Prop) (fun _ σ k => k σ)
    (fun o _ next i σ k => match isIn i es with
      | true => next (i + 1) σ k
      | false => match nth σ i with
        | some none => match rdy σ (bnds o.after.toList) with
          | true => stepQ T P ops o ⟨depO ops σ (bnds o.after.toList) Em, Ds⟩ H fun s => lf (σ.set i (some s)) fun σ => next (i + 1) σ k
          | false => next (i + 1) σ k
        | _ => next (i + 1) σ k) l
/-- What was told before, and may be come to here, is told alike. -/
noncomputable def chkT (T : List TI) (P : Program) (ops : List Oper) (es : List Nat) (Em : List (Nat × SV)) (Ds : List SV) (H : Hp) (σ0 : List (Option SV)) (k : Prop) (l : List Oper) : Nat → Prop :=
  List.rec (motive := fun _ => Nat → Prop) (fun _ => k)
    (fun o _ next i => match isIn i es with
      | true => next (i + 1)
      | false => match reads o with
        | false => next (i + 1)
        | true => match nth σ0 i with
          | some (some s) => match froz ops σ0 i es with
            | true => next (i + 1)
            | false => stepQ T P ops o ⟨depO ops σ0 (bnds o.after.toList) Em, Ds⟩ H (fun s' => s' = s) ∧ next (i + 1)
          | _ => next (i + 1)) l
def allDone (σ : List (Option SV)) : List Nat → Bool
  | [] => true
  | e :: r => match nth σ e with | some (some _) => allDone σ r | _ => false
noncomputable def effT (T : List TI) (P : Program) (ops : List Oper) (Em : List (Nat × SV)) (Ds : List SV) (H : Hp) (σ : List (Option SV)) (nx : List (Option SV) → Hp → Prop) (k : Prop) (l : List Nat) : Prop :=
  List.rec (motive := fun _ => Prop) k
    (fun e _ next => match nth σ e with
      | some none => match ops[e]? with
        | some o => match rdy σ (bnds o.after.toList) with
          | true => opC T P o ⟨depO ops σ (bnds o.after.toList) Em, Ds⟩ H (fun s H' => lf (σ.set e (some s)) fun σ => nx σ H') ∧ next
          | false => next
        | none => next
      | _ => next) l
noncomputable def vcT (T : List TI) (P : Program) (ops : List Oper) (es : List Nat) (Em : List (Nat × SV)) (Ds : List SV) (K : List (Option SV) → Hp → Prop) (m : Nat) : List (Option SV) → Hp → Prop :=
  Nat.rec (motive := fun _ => List (Option SV) → Hp → Prop) (fun _ _ => False)
    (fun _ next σ H => chkT T P ops es Em Ds H σ (cloT T P ops es Em Ds H ops 0 σ fun σ' => effT T P ops Em Ds H σ' next (match allDone σ' es with | true => K σ' H | false => True) es) ops 0) m

theorem allDone_eq {σ : List (Option SV)} : ∀ {l : List Nat}, (∀ e ∈ l, ∃ s, σ[e]? = some (some s)) → allDone σ l = true
  | [], _ => rfl
  | e :: r, h => by
    obtain ⟨s, hs⟩ := h e (List.mem_cons_self ..)
    simp only [allDone]
    rw [nth_eq, hs]
    exact allDone_eq fun e he => h e (List.mem_cons_of_mem _ he)
theorem froz_not {ops : List Oper} {σ : List (Option SV)} {i : Nat} : ∀ {l : List Nat}, (∀ e ∈ l, ∀ s p, σ[e]? = some (some s) → ops[e]? = some p → ∀ d ∈ bnds p.after.toList, d.on ≠ i) → froz ops σ i l = false
  | [], _ => rfl
  | e :: r, h => by
    have ih := froz_not (l := r) fun e' he => h e' (List.mem_cons_of_mem _ he)
    simp only [froz]
    rw [nth_eq]
    split
    · rename_i s hs
      split
      · rename_i p hp
        split
        · rename_i hin
          obtain ⟨d, hd, hdi⟩ := on_of hin
          exact absurd hdi (h e (List.mem_cons_self ..) s p hs hp d hd)
        · exact ih
      · exact ih
    · exact ih
/-- What is known grows. -/
def Grow (es : List Nat) (σ σ' : List (Option SV)) : Prop := σ'.length = σ.length ∧ (∀ (i : Nat) (s : SV), σ[i]? = some (some s) → σ'[i]? = some (some s)) ∧ (∀ e ∈ es, σ'[e]? = σ[e]?)
theorem Grow.refl {es : List Nat} (σ : List (Option SV)) : Grow es σ σ := ⟨rfl, fun _ _ h => h, fun _ _ => rfl⟩
theorem Grow.trans {es : List Nat} {a b c : List (Option SV)} (h : Grow es a b) (k : Grow es b c) : Grow es a c := ⟨k.1.trans h.1, fun i s hs => k.2.1 i s (h.2.1 i s hs), fun e he => (k.2.2 e he).trans (h.2.2 e he)⟩
theorem depO_grow {es : List Nat} {ops : List Oper} {σ σ' : List (Option SV)} (h : Grow es σ σ') {l : List Edge} {E : List (Nat × SV)} (hr : rdy σ l = true) : depO ops σ' l E = depO ops σ l E :=
  depO_congr fun e he => by
    obtain ⟨s, hs⟩ := rdy_eq.1 hr e he
    rw [nth_eq, nth_eq, hs, h.2.1 _ _ hs]
structure CloR (T : List TI) (P : Program) (ops : List Oper) (es : List Nat) (Em : List (Nat × SV)) (Ds : List SV) (H : Hp) (i : Nat) (σ σ' : List (Option SV)) : Prop where
  grow : Grow es σ σ'
  full : ∀ (j : Nat) (o : Oper), i ≤ j → ops[j]? = some o → j ∉ es → rdy σ' (bnds o.after.toList) = true → ∃ s, σ'[j]? = some (some s)
  told : ∀ (j : Nat) (o : Oper) (s : SV), ops[j]? = some o → j ∉ es → σ'[j]? = some (some s) → σ[j]? = some (some s) ∨ (rdy σ' (bnds o.after.toList) = true ∧ stepQ T P ops o ⟨depO ops σ' (bnds o.after.toList) Em, Ds⟩ H (fun s' => s' = s))
  low : ∀ (j : Nat), j < i → σ'[j]? = σ[j]?
theorem cloT_elim {ops : List Oper} {es : List Nat} {Em : List (Nat × SV)} {Ds : List SV} {H : Hp} (hok : edgesOk 0 ops = true) : ∀ (l : List Oper) (i : Nat) (σ : List (Option SV)) (k : List (Option SV) → Prop), (∀ (j : Nat) (o : Oper), l[j]? = some o ↔ ops[i + j]? = some o) → σ.length = ops.length →
    cloT T P ops es Em Ds H l i σ k → ∃ σ', k σ' ∧ CloR T P ops es Em Ds H i σ σ'
  | [], i, σ, k, hl, hn, h => by
    refine ⟨σ, h, Grow.refl _, fun j o hj ho => ?_, fun j o s _ _ hs => .inl hs, fun _ _ => rfl⟩
    have := (hl (j - i) o).2 (by rw [show i + (j - i) = j by omega]; exact ho)
    simp at this
  | o :: r, i, σ, k, hl, hn, h => by
    have h : (match isIn i es with
      | true => cloT T P ops es Em Ds H r (i + 1) σ k
      | false => match nth σ i with
        | some none => match rdy σ (bnds o.after.toList) with
          | true => stepQ T P ops o ⟨depO ops σ (bnds o.after.toList) Em, Ds⟩ H fun s => lf (σ.set i (some s)) fun σ => cloT T P ops es Em Ds H r (i + 1) σ k
          | false => cloT T P ops es Em Ds H r (i + 1) σ k
        | _ => cloT T P ops es Em Ds H r (i + 1) σ k) := h
    have ho : ops[i]? = some o := by have := (hl 0 o).1 rfl; simpa using this
    have hl' : ∀ (j : Nat) (p : Oper), r[j]? = some p ↔ ops[i + 1 + j]? = some p := fun j p => by
      have := hl (j + 1) p
      rw [show i + 1 + j = i + (j + 1) by omega, ← this]; simp
    have hlt : i < ops.length := (List.getElem?_eq_some_iff.1 ho).1
    have pass : ∀ (σ1 : List (Option SV)), cloT T P ops es Em Ds H r (i + 1) σ1 k → σ1.length = ops.length → (i ∉ es → rdy σ1 (bnds o.after.toList) = true → ∃ s, σ1[i]? = some (some s)) → ∃ σ', k σ' ∧ CloR T P ops es Em Ds H i σ1 σ' ∧ σ'[i]? = σ1[i]? := by
      intro σ1 h hn1 hi
      obtain ⟨σ', h1, h2, h3, h4, h5⟩ := cloT_elim hok r (i + 1) σ1 k hl' hn1 h
      refine ⟨σ', h1, ⟨h2, fun j p hj hp hje hr => ?_, h4, fun j hj => h5 j (by omega)⟩, h5 i (by omega)⟩
      by_cases hji : j = i
      · subst hji
        rw [ho] at hp
        injection hp with hp
        subst hp
        have hr0 : rdy σ1 (bnds o.after.toList) = true := by
          rw [rdy_eq] at hr ⊢
          intro e he
          obtain ⟨s, hs⟩ := hr e he
          have := (edgesOk_eq hok _ _ ho e he).2
          exact ⟨s, by rw [← h5 e.on (by omega)]; exact hs⟩
        obtain ⟨s, hs⟩ := hi hje hr0
        exact ⟨s, h2.2.1 _ _ hs⟩
      · exact h3 j p (by omega) hp hje hr
    split at h
    · rename_i hin
      obtain ⟨σ', h1, h2, _⟩ := pass σ h hn fun hne => absurd (isIn_eq.1 hin) hne
      exact ⟨σ', h1, h2⟩
    · rename_i hin
      have hne : i ∉ es := fun hm => by rw [isIn_eq.2 hm] at hin; cases hin
      rw [nth_eq] at h
      split at h
      · rename_i hnn
        split at h
        · rename_i hr
          obtain ⟨s, h3, h4⟩ := stepQ_det h
          rw [lf_eq] at h3
          have hgs : Grow es σ (σ.set i (some s)) := by
            refine ⟨by simp, fun j u hj => ?_, fun e he => ?_⟩
            · rw [List.getElem?_set_ne (fun e => by subst e; rw [hnn] at hj; cases hj)]; exact hj
            · rw [List.getElem?_set_ne (by rintro rfl; exact hne he)]
          obtain ⟨σ', h1, h2, h5⟩ := pass (σ.set i (some s)) h3 (by simp [hn]) fun _ _ => ⟨s, by rw [List.getElem?_set_self (by omega)]⟩
          refine ⟨σ', h1, hgs.trans h2.grow, h2.full, fun j p u hp hje hu => ?_, fun j hj => ?_⟩
          · rcases h2.told j p u hp hje hu with h6 | h6
            · by_cases hji : j = i
              · subst hji
                rw [List.getElem?_set_self (by omega)] at h6
                injection h6 with h6; injection h6 with h6; subst h6
                rw [ho] at hp; injection hp with hp; subst hp
                refine .inr ⟨?_, ?_⟩
                · rw [rdy_eq] at hr ⊢
                  intro e he
                  obtain ⟨u, hu⟩ := hr e he
                  exact ⟨u, (hgs.trans h2.grow).2.1 _ _ hu⟩
                · rw [depO_grow (hgs.trans h2.grow) hr]; exact h4 _ rfl
              · rw [List.getElem?_set_ne (Ne.symm hji)] at h6; exact .inl h6
            · exact .inr h6
          · rw [h2.low j hj, List.getElem?_set_ne (by omega)]
        · rename_i hr
          obtain ⟨σ', h1, h2, _⟩ := pass σ h hn fun _ hr' => by rw [hr'] at hr; cases hr
          exact ⟨σ', h1, h2⟩
      · rename_i x hx
        obtain ⟨σ', h1, h2, _⟩ := pass σ h hn fun _ _ => by
          have hi : σ[i]? = some (σ[i]'(by omega)) := List.getElem?_eq_getElem _
          cases hc : σ[i]'(by omega) with
          | none => rw [hc] at hi; exact absurd hi hx
          | some s => exact ⟨s, by rw [hi, hc]⟩
        exact ⟨σ', h1, h2⟩
theorem chkT_elim {ops : List Oper} {es : List Nat} {Em : List (Nat × SV)} {Ds : List SV} {H : Hp} {σ0 : List (Option SV)} {k : Prop} : ∀ {l : List Oper} {i : Nat}, (∀ (j : Nat) (o : Oper), l[j]? = some o ↔ ops[i + j]? = some o) → chkT T P ops es Em Ds H σ0 k l i →
    k ∧ ∀ (j : Nat) (o : Oper) (s : SV), i ≤ j → ops[j]? = some o → j ∉ es → reads o = true → σ0[j]? = some (some s) → froz ops σ0 j es = false → stepQ T P ops o ⟨depO ops σ0 (bnds o.after.toList) Em, Ds⟩ H (fun s' => s' = s)
  | [], i, hl, h => ⟨h, fun j o s hj ho => by
      have := (hl (j - i) o).2 (by rw [show i + (j - i) = j by omega]; exact ho)
      simp at this⟩
  | o :: r, i, hl, h => by
    have h : (match isIn i es with
      | true => chkT T P ops es Em Ds H σ0 k r (i + 1)
      | false => match reads o with
        | false => chkT T P ops es Em Ds H σ0 k r (i + 1)
        | true => match nth σ0 i with
          | some (some s) => match froz ops σ0 i es with
            | true => chkT T P ops es Em Ds H σ0 k r (i + 1)
            | false => stepQ T P ops o ⟨depO ops σ0 (bnds o.after.toList) Em, Ds⟩ H (fun s' => s' = s) ∧ chkT T P ops es Em Ds H σ0 k r (i + 1)
          | _ => chkT T P ops es Em Ds H σ0 k r (i + 1)) := h
    have ho : ops[i]? = some o := by have := (hl 0 o).1 rfl; simpa using this
    have hl' : ∀ (j : Nat) (p : Oper), r[j]? = some p ↔ ops[i + 1 + j]? = some p := fun j p => by
      have := hl (j + 1) p
      rw [show i + 1 + j = i + (j + 1) by omega, ← this]; simp
    have tail : chkT T P ops es Em Ds H σ0 k r (i + 1) → (∀ s, i ∉ es → reads o = true → σ0[i]? = some (some s) → froz ops σ0 i es = false → stepQ T P ops o ⟨depO ops σ0 (bnds o.after.toList) Em, Ds⟩ H (fun s' => s' = s)) →
        k ∧ ∀ (j : Nat) (o : Oper) (s : SV), i ≤ j → ops[j]? = some o → j ∉ es → reads o = true → σ0[j]? = some (some s) → froz ops σ0 j es = false → stepQ T P ops o ⟨depO ops σ0 (bnds o.after.toList) Em, Ds⟩ H (fun s' => s' = s) := by
      intro h1 h2
      obtain ⟨h3, h4⟩ := chkT_elim hl' h1
      refine ⟨h3, fun j p s hj hp hje hr hs hf => ?_⟩
      by_cases hji : j = i
      · subst hji
        rw [ho] at hp; injection hp with hp; subst hp
        exact h2 s hje hr hs hf
      · exact h4 j p s (by omega) hp hje hr hs hf
    rw [nth_eq] at h
    split at h
    · rename_i hin; exact tail h fun s hne => absurd (isIn_eq.1 hin) hne
    · split at h
      · rename_i hr; exact tail h fun s _ hr' => by rw [hr'] at hr; cases hr
      · split at h
        · rename_i u hu
          split at h
          · rename_i hf; exact tail h fun s _ _ _ hf' => by rw [hf'] at hf; cases hf
          · refine tail h.2 fun s _ _ hs _ => ?_
            rw [hu] at hs; injection hs with hs; injection hs with hs; subst hs
            exact h.1
        · rename_i hx; exact tail h fun s _ _ hs => absurd hs (hx s)
theorem effT_elim {ops : List Oper} {Em : List (Nat × SV)} {Ds : List SV} {H : Hp} {σ : List (Option SV)} {nx : List (Option SV) → Hp → Prop} {k : Prop} : ∀ {l : List Nat}, effT T P ops Em Ds H σ nx k l →
    k ∧ ∀ e ∈ l, ∀ o, σ[e]? = some none → ops[e]? = some o → rdy σ (bnds o.after.toList) = true → opC T P o ⟨depO ops σ (bnds o.after.toList) Em, Ds⟩ H (fun s H' => lf (σ.set e (some s)) fun σ => nx σ H')
  | [], h => ⟨h, fun e he => by cases he⟩
  | e :: r, h => by
    have h : (match nth σ e with
      | some none => match ops[e]? with
        | some o => match rdy σ (bnds o.after.toList) with
          | true => opC T P o ⟨depO ops σ (bnds o.after.toList) Em, Ds⟩ H (fun s H' => lf (σ.set e (some s)) fun σ => nx σ H') ∧ effT T P ops Em Ds H σ nx k r
          | false => effT T P ops Em Ds H σ nx k r
        | none => effT T P ops Em Ds H σ nx k r
      | _ => effT T P ops Em Ds H σ nx k r) := h
    have tail : effT T P ops Em Ds H σ nx k r → (∀ o, σ[e]? = some none → ops[e]? = some o → rdy σ (bnds o.after.toList) = true → opC T P o ⟨depO ops σ (bnds o.after.toList) Em, Ds⟩ H (fun s H' => lf (σ.set e (some s)) fun σ => nx σ H')) →
        k ∧ ∀ e' ∈ e :: r, ∀ o, σ[e']? = some none → ops[e']? = some o → rdy σ (bnds o.after.toList) = true → opC T P o ⟨depO ops σ (bnds o.after.toList) Em, Ds⟩ H (fun s H' => lf (σ.set e' (some s)) fun σ => nx σ H') := by
      intro h1 h2
      obtain ⟨h3, h4⟩ := effT_elim h1
      refine ⟨h3, fun e' he => ?_⟩
      rcases List.mem_cons.1 he with rfl | he
      · exact h2
      · exact h4 e' he
    rw [nth_eq] at h
    split at h
    · split at h
      · rename_i o ho
        split at h
        · refine tail h.2 fun p _ hp _ => ?_
          rw [ho] at hp; injection hp with hp; subst hp
          exact h.1
        · rename_i hr; exact tail h fun p _ hp hr' => by rw [ho] at hp; injection hp with hp; subst hp; rw [hr'] at hr; cases hr
      · rename_i ho; exact tail h fun p _ hp => by rw [ho] at hp; cases hp
    · rename_i hx; exact tail h fun p hn => absurd hn hx
/-- A node of the tree of orders. -/
structure Node (T : List TI) (P : Program) (ops : List Oper) (es : List Nat) (Em : List (Nat × SV)) (Ds : List SV) (K : List (Option SV) → Hp → Prop) (m : Nat) (σ : List (Option SV)) (H : Hp) : Prop where
  len : σ.length = ops.length
  full : ∀ (j : Nat) (o : Oper), ops[j]? = some o → j ∉ es → rdy σ (bnds o.after.toList) = true → ∃ s, σ[j]? = some (some s)
  told : ∀ (j : Nat) (o : Oper) (s : SV), ops[j]? = some o → j ∉ es → σ[j]? = some (some s) → (∀ e ∈ es, ∀ u p, σ[e]? = some (some u) → ops[e]? = some p → ∀ d ∈ bnds p.after.toList, d.on ≠ j) → rdy σ (bnds o.after.toList) = true ∧ stepQ T P ops o ⟨depO ops σ (bnds o.after.toList) Em, Ds⟩ H (fun s' => s' = s)
  eff : ∀ e ∈ es, ∀ o, σ[e]? = some none → ops[e]? = some o → rdy σ (bnds o.after.toList) = true → opC T P o ⟨depO ops σ (bnds o.after.toList) Em, Ds⟩ H (fun s H' => vcT T P ops es Em Ds K m (σ.set e (some s)) H')
  fin : (∀ e ∈ es, ∃ s, σ[e]? = some (some s)) → K σ H
/-- What has been told stays told: at an earlier node it was. -/
structure Past (T : List TI) (P : Program) (ops : List Oper) (es : List Nat) (Em : List (Nat × SV)) (Ds : List SV) (H : Hp) (σ : List (Option SV)) : Prop where
  rd : ∀ (j : Nat) (o : Oper) (s : SV), ops[j]? = some o → j ∉ es → σ[j]? = some (some s) → rdy σ (bnds o.after.toList) = true
  qt : ∀ (j : Nat) (o : Oper) (s : SV), ops[j]? = some o → j ∉ es → reads o = false → σ[j]? = some (some s) → ∃ H0, stepQ T P ops o ⟨depO ops σ (bnds o.after.toList) Em, Ds⟩ H0 (fun s' => s' = s)
theorem node_of {ops : List Oper} {es : List Nat} {Em : List (Nat × SV)} {Ds : List SV} {K : List (Option SV) → Hp → Prop} (hok : edgesOk 0 ops = true) {m : Nat} {σ : List (Option SV)} {H : Hp} (hn : σ.length = ops.length) (hp : Past T P ops es Em Ds H σ)
    (h : vcT T P ops es Em Ds K m σ H) : ∃ m' σ', m = m' + 1 ∧ Grow es σ σ' ∧ Node T P ops es Em Ds K m' σ' H ∧ Past T P ops es Em Ds H σ' := by
  cases m with
  | zero => exact h.elim
  | succ m =>
    have h : chkT T P ops es Em Ds H σ (cloT T P ops es Em Ds H ops 0 σ fun σ' => effT T P ops Em Ds H σ' (vcT T P ops es Em Ds K m) (match allDone σ' es with | true => K σ' H | false => True) es) ops 0 := h
    have hl : ∀ (j : Nat) (o : Oper), ops[j]? = some o ↔ ops[0 + j]? = some o := fun j o => by rw [Nat.zero_add]
    obtain ⟨h1, hchk⟩ := chkT_elim hl h
    obtain ⟨σ', h2, hc⟩ := cloT_elim hok ops 0 σ _ hl hn h1
    obtain ⟨h3, heff⟩ := effT_elim h2
    have told : ∀ (j : Nat) (o : Oper) (s : SV), ops[j]? = some o → j ∉ es → σ'[j]? = some (some s) → σ[j]? = some (some s) ∨ (rdy σ' (bnds o.after.toList) = true ∧ stepQ T P ops o ⟨depO ops σ' (bnds o.after.toList) Em, Ds⟩ H (fun s' => s' = s)) := hc.told
    have hrd : ∀ (j : Nat) (o : Oper) (s : SV), ops[j]? = some o → j ∉ es → σ[j]? = some (some s) → rdy σ' (bnds o.after.toList) = true := fun j o s ho hj hs => by
      have h0 := hp.rd j o s ho hj hs
      rw [rdy_eq] at h0 ⊢
      intro e he
      obtain ⟨u, hu⟩ := h0 e he
      exact ⟨u, hc.grow.2.1 _ _ hu⟩
    refine ⟨m, σ', rfl, hc.grow, ⟨hc.grow.1.trans hn, fun j o ho hj hr => hc.full j o (Nat.zero_le _) ho hj hr, fun j o s ho hj hs hnf => ?_, fun e he o hse ho hr => by simpa only [lf_eq] using heff e he o hse ho hr, fun hall => ?_⟩, ?_⟩
    · rcases told j o s ho hj hs with h4 | h4
      · refine ⟨hrd j o s ho hj h4, ?_⟩
        rw [depO_grow hc.grow (hp.rd j o s ho hj h4)]
        cases hre : reads o with
        | true => exact hchk j o s (Nat.zero_le _) ho hj hre h4 (froz_not fun e he u p hu hpp => hnf e he u p (hc.grow.2.1 _ _ hu) hpp)
        | false =>
          obtain ⟨H0, h5⟩ := hp.qt j o s ho hj hre h4
          exact stepQ_agn hre h5
      · exact h4
    · rw [allDone_eq hall] at h3; exact h3
    · refine ⟨fun j o s ho hj hs => ?_, fun j o s ho hj hre hs => ?_⟩
      · rcases told j o s ho hj hs with h4 | h4
        · exact hrd j o s ho hj h4
        · exact h4.1
      · rcases told j o s ho hj hs with h4 | h4
        · obtain ⟨H0, h5⟩ := hp.qt j o s ho hj hre h4
          refine ⟨H0, ?_⟩
          rw [depO_grow hc.grow (hp.rd j o s ho hj h4)]; exact h5
        · exact ⟨H, h4.2⟩
theorem Past.set {ops : List Oper} {es : List Nat} {Em : List (Nat × SV)} {Ds : List SV} {H H' : Hp} {σ : List (Option SV)} (hp : Past T P ops es Em Ds H σ) {e : Nat} (he : e ∈ es) (hs : σ[e]? = some none) (s : SV) : Past T P ops es Em Ds H' (σ.set e (some s)) := by
  have hg : ∀ (i : Nat) (u : SV), σ[i]? = some (some u) → (σ.set e (some s))[i]? = some (some u) := fun i u hu => by
    rw [List.getElem?_set_ne (fun h => by subst h; rw [hs] at hu; cases hu)]; exact hu
  have hb : ∀ (j : Nat) (u : SV), j ∉ es → (σ.set e (some s))[j]? = some (some u) → σ[j]? = some (some u) := fun j u hj hu => by
    rw [List.getElem?_set_ne (by rintro rfl; exact hj he)] at hu; exact hu
  have hd : ∀ l : List Edge, rdy σ l = true → rdy (σ.set e (some s)) l = true ∧ depO ops (σ.set e (some s)) l Em = depO ops σ l Em := fun l hl => by
    rw [rdy_eq] at hl
    refine ⟨rdy_eq.2 fun x hx => let ⟨u, hu⟩ := hl x hx; ⟨u, hg _ _ hu⟩, depO_congr fun x hx => ?_⟩
    obtain ⟨u, hu⟩ := hl x hx
    rw [nth_eq, nth_eq, hu, hg _ _ hu]
  refine ⟨fun j o u ho hj hu => (hd _ (hp.rd j o u ho hj (hb j u hj hu))).1, fun j o u ho hj hre hu => ?_⟩
  obtain ⟨H0, h⟩ := hp.qt j o u ho hj hre (hb j u hj hu)
  exact ⟨H0, by rw [(hd _ (hp.rd j o u ho hj (hb j u hj hu))).2]; exact h⟩
structure ParT (T : List TI) (P : Program) (n b0 : Nat) (ops : List Oper) (es : List Nat) (Em : List (Nat × SV)) (Ds : List SV) (K : List (Option SV) → Hp → Prop) (β0 : Gh) (H0 : Hp) (w0 : World) (listed : Array Bool) (a : Act) (w : World) : Prop where
  ex : ∃ β m σ H, Node T P ops es Em Ds K m σ H ∧ Past T P ops es Em Ds H σ ∧ Rep β H w ∧ Ext β0 H0 w0 β H w ∧ DefOk b0 β (owned β H) w Ds a.defers ∧ EnvOk β Em a.tmps ∧
    (∀ e ∈ es, e < ops.length → (listed[e]? = some true ↔ ∃ s, σ[e]? = some (some s))) ∧
    (∀ (i : Nat) (o : Oper), ops[i]? = some o → listed[i]? = some true → ∃ s, σ[i]? = some (some s) ∧ ∀ d, o.dst = some d → ∃ x, a.tmps[d]? = some x ∧ Den β s x)
  size : a.tmps.size = n
  lsize : listed.size = ops.length
  dc : Down ops listed
theorem par_T (hT : TabOk T P) {ro : Option Nat} {n b0 : Nat} {ops : Array Oper} {es : List Nat} {Em : List (Nat × SV)} {Ds : List SV} {K : List (Option SV) → Hp → Prop} {β0 : Gh} {H0 : Hp} {w0 : World} {Q : Exit → Act → World → Prop}
    (hd : (dsts ops.toList).Nodup) (hok : edgesOk 0 ops.toList = true) (hbl : ∀ d ∈ dsts ops.toList, d < n) (hEm : ∀ t s, get Em t = some s → t ∉ dsts ops.toList)
    (hes : ∀ e ∈ es, ∀ o, ops.toList[e]? = some o → o.guard = none ∧ ∀ c, o.op ≠ .defer c)
    (hQ : ∀ listed a w, ParT T P n b0 ops.toList es Em Ds K β0 H0 w0 listed a w → (∀ i, i < ops.size → listed[i]? = some true) → Q .normal a w) :
    ∀ (m fuel : Nat) (listed : Array Bool) (a : Act) (w : World), listed.toList.count false = m → m ≤ fuel → ParT T P n b0 ops.toList es Em Ds K β0 H0 w0 listed a w → wpAnyIn (W0 ro) 0 P .any ops Q fuel listed a w
  | m, 0, listed, a, w, hc, hf, I => by
    have hls : listed.size = ops.size := by simpa using I.lsize
    have hall : ∀ i, i < ops.size → listed[i]? = some true := by
      intro i hi
      have hlt : i < listed.size := by omega
      cases hb : listed[i]'hlt with
      | true => rw [Array.getElem?_eq_getElem hlt, hb]
      | false =>
        have : 0 < listed.toList.count false := List.count_pos_iff.2 (by rw [List.mem_iff_getElem?]; exact ⟨i, by simp [hlt, hb]⟩)
        omega
    refine ⟨?_, hQ listed a w I hall⟩
    unfold Region.ready
    rw [List.filter_eq_nil_iff]
    intro i hi
    have h1 := hall i (by simpa using hi)
    have hlt := (Array.getElem?_eq_some_iff.1 h1).1
    rw [Array.getElem?_eq_getElem hlt] at h1
    simp [Array.getD, hlt, Option.some.inj h1]
  | m, fuel + 1, listed, a, w, hc, hf, I => by
    have hls : listed.size = ops.size := by simpa using I.lsize
    refine ⟨fun hr => hQ listed a w I (ready_nil hok hls hr), fun i hi => ?_⟩
    rw [mem_ready] at hi
    obtain ⟨h0, o, ho, hdeps⟩ := hi
    have hilt := (Array.getElem?_eq_some_iff.1 ho).1
    have hil : i < listed.size := by omega
    have hol : ops.toList[i]? = some o := by simpa using ho
    have hdl : ∀ e ∈ bnds o.after.toList, listed[e.on]? = some true := by
      intro e he
      have h1 := edgesOk_eq hok i o hol e he
      have h2 := hdeps e (by simpa using bnds_mem he) h1.1
      have h3 : e.on < listed.size := by omega
      rw [Array.getElem?_eq_getElem h3]
      simp [Array.getD, h3] at h2
      rw [h2]
    have hbf : listed[i]'hil = false := by simpa [Array.getD, hil] using h0
    have hnl : listed[i]? ≠ some true := by rw [Array.getElem?_eq_getElem hil, hbf]; simp
    obtain ⟨β, m', σ, H, N, hpast, R, X, hD, hE, hef, hL⟩ := I.ex
    have hrdy : rdy σ (bnds o.after.toList) = true := by
      rw [rdy_eq]
      intro e he
      have h1 := (edgesOk_eq hok i o hol e he).2
      have h2 : ops.toList[e.on]? = some (ops.toList[e.on]'(by simp; omega)) := List.getElem?_eq_getElem _
      obtain ⟨s, hs, _⟩ := hL e.on _ h2 (hdl e he)
      exact ⟨s, hs⟩
    have RA : RepA n b0 β ⟨depO ops.toList σ (bnds o.after.toList) Em, Ds⟩ H a w := by
      refine ⟨R, I.size, hD, fun t s hts => ?_⟩
      rcases depO_get hts with ⟨e, he, p, hp, hpd, hps⟩ | hts
      · obtain ⟨u, hu, hud⟩ := hL e.on p hp (hdl e he)
        rw [hu] at hps
        injection hps with hps; injection hps with hps; subst hps
        exact hud t hpd
      · exact hE t s hts
    -- what is behind it
    have go : ∀ (β' : Gh) (y : Value) (s : SV) (m2 : Nat) (σ' : List (Option SV)) (H' : Hp) (w' : World), Den β' s y → Node T P ops.toList es Em Ds K m2 σ' H' → Past T P ops.toList es Em Ds H' σ' → Rep β' H' w' → Ext β H w β' H' w' → σ'[i]? = some (some s) → (∀ (k : Nat) (u : SV), σ[k]? = some (some u) → σ'[k]? = some (some u)) →
        (∀ e ∈ es, e ≠ i → σ'[e]? = σ[e]?) → wpAnyIn (W0 ro) 0 P .any ops Q fuel (listed.setIfInBounds i true) (a.put o.dst y) w' := by
      intro β' y s m2 σ' H' w' hdn N' hp' R' X' hsi hgr hee
      have hcnt : (listed.setIfInBounds i true).toList.count false = m - 1 := by
        have e0 : (listed.setIfInBounds i true).toList = listed.toList.set i true := by simp
        have hil2 : i < listed.toList.length := by simpa using hil
        rw [e0, List.count_set hil2]
        have e1 : listed.toList[i]'hil2 = false := by simpa using hbf
        rw [e1]
        simp only [beq_self_eq_true, if_true]
        have e2 : ((true == false) = true) = False := by simp
        simp only [e2, if_false]
        omega
      have hpos : 0 < m := by
        rw [← hc]
        exact List.count_pos_iff.2 (by rw [List.mem_iff_getElem?]; exact ⟨i, by simp [hil, hbf]⟩)
      refine par_T hT hd hok hbl hEm hes hQ (m - 1) fuel _ _ _ hcnt (by omega) ?_
      refine ⟨⟨β', m2, σ', H', N', hp', R', X.trans X', ?_, ?_, ?_, ?_⟩, ?_, by simp [hls], I.dc.set hol hdl⟩
      · rw [put_defers]; exact hD.ext X'
      · intro t u hts
        obtain ⟨x, hx, hdx⟩ := hE t u hts
        refine ⟨x, ?_, Den.mono X'.pre _ _ hdx⟩
        rw [put_tmps]
        exact put_keep hx fun v hv e => hEm t u hts (e ▸ mem_dsts hol hv)
      · intro e he hel
        by_cases hie : i = e
        · subst hie
          exact ⟨fun _ => ⟨s, hsi⟩, fun _ => by simp [Array.getElem?_setIfInBounds, hil]⟩
        · rw [Array.getElem?_setIfInBounds, if_neg hie, hee e he (Ne.symm hie)]
          exact hef e he hel
      · intro k p hp hk
        by_cases hik : i = k
        · subst hik
          rw [hol] at hp
          injection hp with hp
          subst hp
          refine ⟨s, hsi, fun d hpd => ?_⟩
          have hdn' : d < a.tmps.size := by rw [I.size]; exact hbl d (mem_dsts hol hpd)
          exact ⟨y, by simp [Act.put, hpd, hdn'], hdn⟩
        · have hk' : listed[k]? = some true := by
            rw [Array.getElem?_setIfInBounds, if_neg hik] at hk; exact hk
          obtain ⟨u, hu, hud⟩ := hL k p hp hk'
          refine ⟨u, hgr k u hu, fun d hpd => ?_⟩
          obtain ⟨x, hx, hdx⟩ := hud d hpd
          refine ⟨x, ?_, Den.mono X'.pre _ _ hdx⟩
          rw [put_tmps]
          exact put_keep hx fun v hv e => hik (dst_inj hd hol hp (e ▸ hv) hpd)
      · cases o.dst <;> simp [Act.put, I.size]
    by_cases he : i ∈ es
    · have hsn : σ[i]? = some none := by
        have hi2 : i < σ.length := by rw [N.len]; simpa using hilt
        cases hc2 : σ[i]'hi2 with
        | none => rw [List.getElem?_eq_getElem hi2, hc2]
        | some s => exact absurd ((hef i he (by simpa using hilt)).2 ⟨s, by rw [List.getElem?_eq_getElem hi2, hc2]⟩) hnl
      obtain ⟨hg, hnd⟩ := hes i he o hol
      unfold wpOpIn
      simp only [ho]
      rw [if_pos (by simp [Region.wanted, hg])]
      refine opC_wp hT RA hnd (N.eff i he o hsn hol hrdy) ?_
      intro β' s y H' w' hdn R' X' hk
      obtain ⟨m2, σ', rfl, hgr, N', hp'⟩ := node_of hok (by rw [List.length_set]; exact N.len) (hpast.set he hsn s) hk
      have hsi : (σ.set i (some s))[i]? = some (some s) := by rw [List.getElem?_set_self]; exact (List.getElem?_eq_some_iff.1 hsn).1
      refine go β' y s m2 σ' H' w' hdn N' hp' R' X' (hgr.2.1 _ _ hsi) (fun k u hu => hgr.2.1 _ _ ?_) fun e hee hei => ?_
      · rw [List.getElem?_set_ne (fun h => by subst h; rw [hsn] at hu; cases hu)]; exact hu
      · rw [hgr.2.2 e hee, List.getElem?_set_ne (Ne.symm hei)]
    · obtain ⟨s, hs⟩ := N.full i o hol he hrdy
      have hq := (N.told i o s hol he hs fun e hee u p hu hp d hdd hdi => by
        have hel : e < ops.toList.length := (List.getElem?_eq_some_iff.1 hp).1
        have h1 := (hef e hee hel).2 ⟨u, hu⟩
        exact hnl (hdi ▸ I.dc e p hp h1 d hdd)).2
      refine stepQ_wp (k := fun s' => s' = s) hT RA ho hq ?_
      rintro β' s' y w' hdn R' X' rfl
      exact go β' y s' m' σ H w' hdn N hpast R' X' hs (fun _ _ h => h) fun _ _ _ => rfl
def esOk (ops : List Oper) : List Nat → Bool
  | [] => true
  | e :: r => match ops[e]? with
    | some o => match o.guard with
      | none => match o.op with
        | .defer _ => false
        | _ => esOk ops r
      | some _ => false
    | none => false
theorem esOk_eq {ops : List Oper} : ∀ {l : List Nat}, esOk ops l = true → ∀ e ∈ l, ∀ o, ops[e]? = some o → o.guard = none ∧ ∀ c, o.op ≠ .defer c
  | [], _, e, he => by cases he
  | x :: r, h, e, he => by
    simp only [esOk] at h
    split at h
    case h_2 => cases h
    rename_i p hp
    split at h
    case h_2 => cases h
    rename_i hg
    split at h
    · cases h
    · rename_i hnd
      intro o ho
      rcases List.mem_cons.1 he with rfl | he
      · rw [hp] at ho; injection ho with ho; subst ho; exact ⟨hg, fun c e => hnd c e⟩
      · exact esOk_eq h e he o ho
theorem esOk_lt {ops : List Oper} : ∀ {l : List Nat}, esOk ops l = true → ∀ e ∈ l, e < ops.length
  | [], _, e, he => by cases he
  | x :: r, h, e, he => by
    simp only [esOk] at h
    split at h
    case h_2 => cases h
    rename_i p hp
    split at h
    case h_2 => cases h
    split at h
    · cases h
    · rcases List.mem_cons.1 he with rfl | he
      · exact (List.getElem?_eq_some_iff.1 hp).1
      · exact esOk_lt h e he
def nones : List Oper → List (Option SV)
  | [] => []
  | _ :: r => none :: nones r
theorem nones_eq : ∀ l : List Oper, nones l = List.replicate l.length none
  | [] => rfl
  | _ :: r => by rw [nones, nones_eq r]; rfl
def parOkT (n : Nat) (ops : List Oper) (es : List Nat) : Bool := match parOk n ops with | true => esOk ops es | false => false
theorem Cd.parT (hT : TabOk T P) (hm : P.follows .mixedOrders = true) (es : List Nat) {n id : Nat} {ro : Option Nat} {ops : Array Oper} {E : Env} {H : Hp} {K : Exit → Env → Hp → Prop} (hok : parOkT n ops.toList es = true)
    (h : lf (eraseE (dsts ops.toList) E.ts) fun Em => vcT T P ops.toList es Em E.ds (fun σ H' => lf (fullO ops.toList σ Em) fun ts => K .normal ⟨ts, E.ds⟩ H') (es.length + 1) (nones ops.toList) H) :
    Cd P n ro (.region id ops true) E H K := by
  unfold parOkT at hok
  split at hok
  case h_2 => cases hok
  rename_i hpo
  obtain ⟨hnd, hed, hbl⟩ := parOk_eq hpo
  rw [lf_eq] at h
  have hnn : ∀ (i : Nat) (s : SV), (nones ops.toList)[i]? ≠ some (some s) := fun i s hs => by
    rw [nones_eq, List.getElem?_replicate] at hs
    split at hs <;> cases hs
  have hp : Past T P ops.toList es (eraseE (dsts ops.toList) E.ts) E.ds H (nones ops.toList) := ⟨fun j o s _ _ hs => absurd hs (hnn j s), fun j o s _ _ _ hs => absurd hs (hnn j s)⟩
  obtain ⟨m, σ, _, hgr, N, hp'⟩ := node_of hed (by rw [nones_eq]; simp) hp h
  refine ⟨fun b0 β a w R => wpIn_region_any hm ?_⟩
  refine par_T (K := fun σ H' => lf (fullO ops.toList σ (eraseE (dsts ops.toList) E.ts)) fun ts => K .normal ⟨ts, E.ds⟩ H') (Em := eraseE (dsts ops.toList) E.ts) (Ds := E.ds) (β0 := β) (H0 := H) (w0 := { w with drawn := w.drawn + 1 }) (n := n) (b0 := b0) hT hnd hed hbl (fun t s hts => (eraseE_get hts).2) (esOk_eq hok) ?_ ops.size ops.size _ a _ (by simp) (Nat.le_refl _) ?_
  · rintro listed a' w' I hall
    obtain ⟨β', m', σ', H', N', _, R', X', hD, hE, hef, hL⟩ := I.ex
    have hfin := N'.fin fun e he => by
      by_cases hel : e < ops.toList.length
      · exact (hef e he hel).1 (hall e (by simpa using hel))
      · exact absurd (esOk_lt hok e he) hel
    rw [lf_eq] at hfin
    refine ⟨β', ⟨fullO ops.toList σ' (eraseE (dsts ops.toList) E.ts), E.ds⟩, H', ⟨R', I.size, hD, fun t s hts => ?_⟩, (Ext.drew β H w).trans X', hfin⟩
    rcases fullO_get hts with ⟨k, o, hk, hd, hs⟩ | hts
    · obtain ⟨u, hu, hud⟩ := hL k o hk (hall k (by have h3 := (List.getElem?_eq_some_iff.1 hk).1; simpa using h3))
      rw [hu] at hs
      injection hs with hs; injection hs with hs; subst hs
      exact hud t hd
    · exact hE t s hts
  · have hrep : ∀ i : Nat, (Array.replicate ops.size false)[i]? ≠ some true := by
      intro i hi
      rw [Array.getElem?_replicate] at hi
      split at hi <;> cases hi
    refine ⟨⟨β, m, σ, H, N, hp', R.rep.drew, Ext.refl _ _ _, R.defs.ext (Ext.drew β H w), fun t s hts => R.env t s (eraseE_get hts).1, fun e he hel => ⟨fun h => absurd h (hrep e), fun ⟨s, hs⟩ => ?_⟩, fun i o _ h => absurd h (hrep i)⟩, R.size, by simp, fun j o _ h => absurd h (hrep j)⟩
    rw [hgr.2.2 e he] at hs
    exact absurd hs (hnn e s)
end
end Go.Sy

