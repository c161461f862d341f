import Derived.Test.YthdkofhgdmgdcabSxF
/- Sx, part G: functions; calls within a larger state; loops. -/
set_option linter.unusedVariables false
set_option linter.unusedSimpArgs false
namespace Go.Sx
open Go

/-! ### What speaks of the first boxes alone -/
mutual
def blw (m : Nat) : SV → Bool
  | .v _ => true
  | .loc i _ => Nat.blt i m
  | .sl i _ _ _ => Nat.blt i m
  | .clo _ a c => match blwL m a with | true => blwL m c | false => false
  | .agg l => blwL m l
  | .tup l => blwL m l
  | .ifc _ x => blw m x
def blwL (m : Nat) : List SV → Bool
  | [] => true
  | x :: r => match blw m x with | true => blwL m r | false => false
end
mutual
theorem Den.cut {β β' : List Nat} {m : Nat} (h : ∀ i, i < m → β'[i]? = β[i]?) : ∀ (s : SV) (y : Value), blw m s = true → Den β s y → Den β' s y
  | .v x, y, _, hd => hd
  | .loc i o, y, hb, ⟨b, h1, h2⟩ => ⟨b, by rw [h i (by simp [blw] at hb; exact hb)]; exact h1, h2⟩
  | .sl i o n c, y, hb, ⟨b, h1, h2⟩ => ⟨b, by rw [h i (by simp [blw] at hb; exact hb)]; exact h1, h2⟩
  | .clo f a c, y, hb, ⟨xs, ys, h1, h2, h3⟩ => by
    simp only [blw] at hb
    split at hb
    · rename_i ha; exact ⟨xs, ys, DenL.cut h a xs ha h1, DenL.cut h c ys hb h2, h3⟩
    · cases hb
  | .agg l, y, hb, ⟨xs, h1, h2⟩ => ⟨xs, DenL.cut h l xs (by simpa only [blw] using hb) h1, h2⟩
  | .tup l, y, hb, ⟨xs, h1, h2⟩ => ⟨xs, DenL.cut h l xs (by simpa only [blw] using hb) h1, h2⟩
  | .ifc t x, y, hb, ⟨z, h1, h2⟩ => ⟨z, Den.cut h x z (by simpa only [blw] using hb) h1, h2⟩
theorem DenL.cut {β β' : List Nat} {m : Nat} (h : ∀ i, i < m → β'[i]? = β[i]?) : ∀ (l : List SV) (ys : List Value), blwL m l = true → DenL β l ys → DenL β' l ys
  | [], ys, _, hd => hd
  | x :: r, ys, hb, ⟨y, zs, h1, h2, h3⟩ => by
    simp only [blwL] at hb
    split at hb
    · rename_i hx; exact ⟨y, zs, Den.cut h x y hx h1, DenL.cut h r zs hb h2, h3⟩
    · cases hb
end
theorem Den.free {β β' : List Nat} {s : SV} {y : Value} (hb : blw 0 s = true) (hd : Den β s y) : Den β' s y := Den.cut (fun i hi => absurd hi (Nat.not_lt_zero i)) s y hb hd
theorem DenL.free {β β' : List Nat} {l : List SV} {ys : List Value} (hb : blwL 0 l = true) (hd : DenL β l ys) : DenL β' l ys := DenL.cut (fun i hi => absurd hi (Nat.not_lt_zero i)) l ys hb hd
def blwE (m : Nat) : Env → Bool
  | [] => true
  | (_, s) :: r => match blw m s with | true => blwE m r | false => false
def blwB (m : Nat) : List (List SV) → Bool
  | [] => true
  | l :: r => match blwL m l with | true => blwB m r | false => false
theorem blwE_get {m : Nat} : ∀ {E : Env} {t : Nat} {s : SV}, blwE m E = true → get E t = some s → blw m s = true
  | [], _, _, _, h => by simp [get] at h
  | (u, s') :: r, t, s, hb, h => by
    simp only [blwE] at hb
    split at hb
    · rename_i hs
      simp only [get] at h
      split at h
      · injection h with h; subst h; exact hs
      · exact blwE_get hb h
    · cases hb
theorem blwB_get {m : Nat} : ∀ {B : List (List SV)} {i : Nat} {l : List SV}, blwB m B = true → B[i]? = some l → blwL m l = true
  | [], _, _, _, h => by simp at h
  | l' :: r, i, l, hb, h => by
    simp only [blwB] at hb
    split at hb
    · rename_i hs
      cases i with
      | zero => simp at h; subst h; exact hs
      | succ i => simp at h; exact blwB_get hb h
    · cases hb

/-! ### A state that tells less -/
def subE : Env → Env → Prop
  | [], _ => True
  | (t, s) :: r, E' => get E' t = some s ∧ subE r E'
theorem subE_get : ∀ {E E' : Env}, subE E E' → ∀ {t : Nat} {s : SV}, get E t = some s → get E' t = some s
  | [], _, _, _, _, h => by simp [get] at h
  | (u, s') :: r, E', ⟨h1, h2⟩, t, s, h => by
    simp only [get] at h
    split at h
    · rename_i hb
      have hb := Nat.eq_of_beq_eq_true hb
      subst hb
      injection h with h; subst h; exact h1
    · exact subE_get h2 h
structure Back (E : Env) (J : Hp) (E' : Env) (H' : Hp) : Prop where
  env : subE E E'
  rows : J.rows = H'.rows
  g : ∀ a v, J.g a = some v → H'.g a = some v
  boxes : (J.nb = H'.nb ∧ J.boxes = H'.boxes) ∨ (Nat.ble J.nb H'.nb = true ∧ J.boxes = H'.boxes.take J.nb ∧ blwE J.nb E = true ∧ blwB J.nb J.boxes = true)
theorem RepA.back {n : Nat} {D : List Deferred} {β : List Nat} {E' : Env} {H' : Hp} {a : Act} {w : World} (R : RepA n D β E' H' a w) {E : Env} {J : Hp} (B : Back E J E' H')
    {β0 : List Nat} {H0 : Hp} {w0 : World} (X : Ext β0 H0 w0 β H' w) (hnb : β0.length ≤ J.nb) (hg0 : ∀ a v, H0.g a = some v → J.g a = some v) :
    RepA n D (β.take J.nb) E J a w ∧ Ext β0 H0 w0 (β.take J.nb) J w := by
  have hown : ∀ b ∈ owned (β.take J.nb) J, b ∈ owned β H' := by
    intro b hb
    simp only [owned, List.mem_append, B.rows] at hb ⊢
    rcases hb with hb | hb
    · exact .inl (List.mem_of_mem_take hb)
    · exact .inr hb
  have hnd : (owned (β.take J.nb) J).Nodup := by
    simp only [owned, B.rows]
    have := R.rep.nd
    simp only [owned] at this
    exact this.sublist ((List.take_sublist _ _).append_right _)
  have hpre : β0 <+: β.take J.nb := by
    rw [List.prefix_take_iff]
    exact ⟨X.pre, hnb⟩
  have X' : Ext β0 H0 w0 (β.take J.nb) J w := ⟨hpre, X.fr, fun b hb => X.own b (hown b hb), hg0, fun a v h => X.gn a v (B.g a v h)⟩
  have hrow : ∀ r ∈ J.rows, w.ownsRow 0 r.e r.size r.v r.n r.xs := fun r hr => R.rep.row r (B.rows ▸ hr)
  have hgg : ∀ a v, J.g a = some v → w.cell? a = some v ∧ a.block ∉ owned (β.take J.nb) J := fun a v h => ⟨(R.rep.g a v (B.g a v h)).1, fun hm => (R.rep.g a v (B.g a v h)).2 (hown _ hm)⟩
  rcases B.boxes with ⟨h1, h2⟩ | ⟨h1, h2, h3, h4⟩
  · have ht : β.take J.nb = β := by rw [List.take_of_length_le]; rw [R.rep.len, ← R.rep.nb, h1]; exact Nat.le_refl _
    rw [ht] at hgg hnd X' ⊢
    refine ⟨⟨⟨by rw [R.rep.len, h2], by rw [h1, R.rep.nb, h2], fun i cs b hi hb => R.rep.box i cs b (h2 ▸ hi) hb, hrow, hnd, hgg⟩, R.size, R.defers, fun t s ht => R.env t s (subE_get B.env ht)⟩, X'⟩
  · have h1 := Nat.le_of_ble_eq_true h1
    have hl : J.boxes.length = J.nb := by rw [h2, List.length_take, ← R.rep.nb]; omega
    have hβ : (β.take J.nb).length = J.nb := by rw [List.length_take, R.rep.len, ← R.rep.nb]; omega
    have hcut : ∀ i, i < J.nb → (β.take J.nb)[i]? = β[i]? := fun i hi => by rw [List.getElem?_take, if_pos hi]
    refine ⟨⟨⟨by rw [hβ, hl], hl.symm, ?_, hrow, hnd, hgg⟩, R.size, R.defers, ?_⟩, X'⟩
    · intro i cs b hi hb
      have hlt : i < J.nb := by rw [← hl]; exact (List.getElem?_eq_some_iff.1 hi).1
      rw [hcut i hlt] at hb
      have hi2 := hi
      rw [h2, List.getElem?_take, if_pos hlt] at hi2
      obtain ⟨xs, t, hd, hh⟩ := R.rep.box i cs b hi2 hb
      exact ⟨xs, t, DenL.cut hcut _ _ (blwB_get h4 hi) hd, hh⟩
    · intro t s ht
      obtain ⟨x, hx, hd⟩ := R.env t s (subE_get B.env ht)
      exact ⟨x, hx, Den.cut hcut _ _ (blwE_get h3 ht) hd⟩

/-! ### Loops -/
theorem wp_loopG {P : Program} {Q : Exit → Act → World → Prop} {a : Act} {w : World} {c : Code} {ι : Type} (I : ι → Act → World → Prop) (μ : ι → Nat) (i0 : ι) (h0 : I i0 a w)
    (round : ∀ i a w, I i a w → c.wp P (Exit.then (fun a' w' => ∃ i', I i' a' w' ∧ μ i' < μ i) Q) a w) : (Code.loop c).wp P Q a w := by
  intro b k cs
  have key : ∀ n i a w, μ i = n → I i a w →
      ∃ e a' w', Q e a' w' ∧ Arrives P (lone (b.at a (.code c :: .inLoop c :: k)) cs w) b k cs e a' w' := by
    intro n
    induction n using Nat.strongRecOn with
    | _ n ih =>
      intro i a w hn hI
      obtain ⟨e, a₁, w₁, hq, harr⟩ := round i a w hI b (.inLoop c :: k) cs
      cases e with
      | normal =>
        obtain ⟨i', hI₁, hlt⟩ := hq
        obtain ⟨e₂, a₂, w₂, hq₂, harr₂⟩ := ih (μ i') (hn ▸ hlt) i' a₁ w₁ rfl hI₁
        exact ⟨e₂, a₂, w₂, hq₂, .of_steps (Steps.trans harr (.one step_inLoop)) harr₂⟩
      | exit id => exact ⟨_, a₁, w₁, hq, .pass (x := .inLoop c) rfl (fun _ _ => .inl (by simp)) harr⟩
      | goto l => exact ⟨_, a₁, w₁, hq, .pass (x := .inLoop c) rfl (fun _ _ => .inl (by simp)) harr⟩
      | ret => exact ⟨_, a₁, w₁, hq, .pass (x := .inLoop c) rfl (fun _ _ => .inl (by simp)) harr⟩
      | panic ch => exact ⟨_, a₁, w₁, hq, .pass (x := .inLoop c) rfl (fun _ _ => .inl (by simp)) harr⟩
      | outgrown => exact ⟨_, a₁, w₁, hq, .pass (x := .inLoop c) rfl (fun _ _ => .inl (by simp)) harr⟩
  obtain ⟨e, a', w', hq, harr⟩ := key _ i0 a w rfl h0
  exact ⟨e, a', w', hq, .of_steps (.one step_loop) harr⟩

theorem Sx.loop {P : Program} {n : Nat} {D : List Deferred} {c : Code} {E : Env} {H : Hp} {K : Exit → Env → Hp → Prop} {ι : Type} (I : ι → Env) (J : ι → Hp) (μ : ι → Nat) (i0 : ι)
    (h0 : Back (I i0) (J i0) E H) (hnb : (J i0).nb = H.nb) (hg : ∀ a v, H.g a = some v → (J i0).g a = some v)
    (step : ∀ i, Sx P n D c (I i) (J i) fun e E' H' => match e with
      | .normal => ∃ i', μ i' < μ i ∧ (J i').nb = (J i).nb ∧ (∀ a v, (J i).g a = some v → (J i').g a = some v) ∧ Back (I i') (J i') E' H'
      | e => K e E' H') : Sx P n D (.loop c) E H K := by
  refine ⟨fun β a w R => ?_⟩
  obtain ⟨R0, X0⟩ := R.back h0 (Ext.refl β H w) (by rw [hnb, R.rep.nb, R.rep.len]; exact Nat.le_refl _) hg
  refine wp_loopG (fun (p : ι × List Nat) a' w' => RepA n D p.2 (I p.1) (J p.1) a' w' ∧ Ext β H w p.2 (J p.1) w') (fun p => μ p.1) (i0, _) ⟨R0, X0⟩ ?_
  rintro ⟨i, β1⟩ a1 w1 ⟨R1, X1⟩
  simp only at R1 X1
  refine wp_mono ((step i).run β1 a1 w1 R1) ?_
  rintro e a2 w2 ⟨β2, E2, H2, R2, X2, hk⟩
  cases e with
  | normal =>
    obtain ⟨i', hlt, hnb', hg', hb⟩ := hk
    have hlen : β.length ≤ (J i').nb := by
      have h1 := X1.pre.length_le
      rw [R1.rep.len, ← R1.rep.nb] at h1
      omega
    have X12 := X1.trans X2
    obtain ⟨R3, X3⟩ := R2.back hb X12 hlen (fun a v h => hg' a v (X1.g a v h))
    exact ⟨(i', _), ⟨R3, X3⟩, hlt⟩
  | exit j => exact ⟨β2, E2, H2, R2, X1.trans X2, hk⟩
  | goto j => exact ⟨β2, E2, H2, R2, X1.trans X2, hk⟩
  | ret => exact ⟨β2, E2, H2, R2, X1.trans X2, hk⟩
  | panic ch => exact ⟨β2, E2, H2, R2, X1.trans X2, hk⟩
  | outgrown => exact ⟨β2, E2, H2, R2, X1.trans X2, hk⟩

/-! ### Functions -/
def resL (T : List TI) : List ResultVar → Env → Hp → (List SV → Prop) → Prop
  | [], _, _, k => k []
  | x :: r, E, H, k => match x with
    | .tmp t => nd (get E t) fun s => resL T r E H fun l => k (s :: l)
    | .cell a t => nd (getT T t) fun i => nd (get E a) fun s => ldS H i s fun s _ => resL T r E H fun l => k (s :: l)
def pack (l : List SV) : SV :=
  match l with
  | [s] => s
  | l => .tup l
def argsEnv : Nat → List SV → Env
  | _, [] => []
  | i, s :: r => (i, s) :: argsEnv (i + 1) r
def resOne (tmps : Array Value) : ResultVar → Sem Value
  | .tmp t => pure (tmps.getD t undef)
  | .cell b t => do loadVar t (← asAddr (tmps.getD b undef))
theorem results_eq (fn : Func) (tmps : Array Value) : results fn tmps = (do let vs ← fn.results.mapM (resOne tmps); pure (if h : vs.size = 1 then vs[0] else .tuple vs) : Sem Value) := by
  have : (fun (x : ResultVar) => match x with
    | .tmp t => (pure (tmps.getD t undef) : Sem Value)
    | .cell a t => do loadVar t (← asAddr (tmps.getD a undef))) = resOne tmps := by
    funext x
    cases x <;> rfl
  unfold results
  rw [← this]
  rfl
section
variable {P : Program}
theorem resL_run {T : List TI} (hT : TabOk T P) {n : Nat} {D : List Deferred} {β : List Nat} {E : Env} {H : Hp} {a : Act} {w : World} (R : RepA n D β E H a w) : ∀ (l : List ResultVar) (k : List SV → Prop), resL T l E H k →
    ∃ ss ys, k ss ∧ DenL β ss ys ∧ (l.mapM (resOne a.tmps)).run P w = .ok ys w
  | [], k, h => ⟨[], [], h, rfl, rfl⟩
  | x :: r, k, h => by
    unfold resL at h
    split at h
    · rename_i t
      obtain ⟨s, hs, h⟩ := nd_elim h
      obtain ⟨ss, ys, h1, h2, h3⟩ := resL_run hT R r _ h
      obtain ⟨y, hy, hd⟩ := R.env t s hs
      refine ⟨s :: ss, y :: ys, h1, ⟨y, ys, hd, h2, rfl⟩, ?_⟩
      simp only [List.mapM_cons, resOne, Sem.run_bind, Sem.run_pure, Result.andThen_ok]
      rw [h3]
      simp [hy]
    · rename_i b t
      obtain ⟨i, hi, h⟩ := nd_elim h
      obtain ⟨s, hs, h⟩ := nd_elim h
      obtain ⟨ti⟩ := hT.get hi
      obtain ⟨y, hy, hd⟩ := R.env b s hs
      obtain ⟨z, s', hz, hdz, h⟩ := ldS_run R.rep ti hd h
      obtain ⟨ss, ys, h1, h2, h3⟩ := resL_run hT R r _ h
      refine ⟨s' :: ss, z :: ys, h1, ⟨z, ys, hdz, h2, rfl⟩, ?_⟩
      have hyy : a.tmps.getD b undef = y := by simp [hy]
      have hz' : (do loadVar t (← asAddr y) : Sem Value).run P w = .ok z w := by
        have : ∃ ad, y = .pointer (some ad) := by
          unfold Instr.loadAt Instr.sureAddr at hz
          cases y with
          | pointer p => cases p with
            | none => simp [stuck, Sem.run] at hz
            | some ad => exact ⟨ad, rfl⟩
          | _ => simp [stuck, Sem.run] at hz
        obtain ⟨ad, rfl⟩ := this
        simpa [Instr.loadAt, Instr.sureAddr, asAddr] using hz
      simp only [List.mapM_cons, resOne, Sem.run_bind, hyy]
      simp only [Sem.run_bind] at hz'
      rw [hz']
      simp only [Result.andThen_ok]
      rw [h3]
      simp
theorem argsEnv_get : ∀ {l : List SV} {i t : Nat} {s : SV}, get (argsEnv i l) t = some s → i ≤ t ∧ l[t - i]? = some s
  | [], _, _, _, h => by simp [argsEnv, get] at h
  | x :: r, i, t, s, h => by
    simp only [argsEnv, get] at h
    split at h
    · rename_i hb
      have hb := Nat.eq_of_beq_eq_true hb
      subst hb
      injection h with h; subst h
      simp
    · rename_i hb
      have hb := Nat.ne_of_beq_eq_false hb
      obtain ⟨h1, h2⟩ := argsEnv_get h
      refine ⟨by omega, ?_⟩
      rw [show t - i = (t - (i + 1)) + 1 by omega]
      simpa using h2

theorem Tr.of_vc {T : List TI} (hT : TabOk T P) {f : FuncId} {fn : Func} {c : Code} {n : Nat} {rs : Array ResultVar} {args : List SV} {H : Hp} {Q : SV → Hp → Prop}
    (hf : P.funcs[f]? = some fn) (hn : (fn.name == "runtime.NumGoroutine") = false) (hb : fn.body = some c) (hnt : fn.ntmps = n) (hrs : fn.results = rs) (hal : Nat.ble args.length n = true)
    (h : vcC T P n [] c (argsEnv 0 args) H fun e E' H' => match e with
      | .normal => resL T rs.toList E' H' fun l => Q (pack l) H'
      | .ret => resL T rs.toList E' H' fun l => Q (pack l) H'
      | _ => False) : Tr P f args H Q := by
  refine ⟨fun β w xs R hd => .inl ⟨⟨fn, hf, by rw [hb]; rfl, hn⟩, ?_⟩⟩
  have hlen : args.length ≤ n := Nat.le_of_ble_eq_true hal
  have hxl := hd.length
  refine calls_of_wp hf hb ?_
  have RA : RepA n [] β (argsEnv 0 args) H { tmps := xs.toArray ++ Array.replicate (fn.ntmps - xs.toArray.size) undef, defers := [] } w := by
    refine ⟨R, by simp; omega, rfl, fun t s ht => ?_⟩
    obtain ⟨_, h1⟩ := argsEnv_get ht
    obtain ⟨y, hy, hdy⟩ := hd.get h1
    refine ⟨y, ?_, hdy⟩
    rw [Array.getElem?_append_left]
    · simpa using hy
    · have := (List.getElem?_eq_some_iff.1 hy).1; simpa using this
  refine wp_mono ((Sx.of_vc hT c h).run β _ w RA) ?_
  rintro e a' w' ⟨β', E', H', R', X', hk⟩
  have fin : (resL T rs.toList E' H' fun l => Q (pack l) H') → a'.defers = [] ∧ ∃ v, (results fn a'.tmps).run P w' = .ok v w' ∧
      ∃ x, Ending.returned v = .returned x ∧ ∃ r H' β', Den β' r x ∧ Rep β' H' w' ∧ Ext β H w β' H' w' ∧ Q r H' := by
    intro h
    obtain ⟨ss, ys, h1, h2, h3⟩ := resL_run hT R' rs.toList _ h
    refine ⟨R'.defers, if h : ys.toArray.size = 1 then ys.toArray[0] else .tuple ys.toArray, ?_, _, rfl, pack ss, H', β', ?_, R'.rep, X', h1⟩
    · rw [results_eq, hrs, Sem.run_bind, Array.mapM_eq_mapM_toList]
      simp only [Sem.run_map, Sem.run_bind, h3]
      rfl
    · have hl := h2.length
      unfold pack
      split
      · rename_i s
        obtain ⟨y, zs, h4, h5, rfl⟩ := h2
        simp only [DenL] at h5
        subst h5
        simpa using h4
      · rename_i hne
        rw [dif_neg]
        · exact ⟨ys, h2, rfl⟩
        · intro h1
          have : ss.length = 1 := by rw [← hl]; simpa using h1
          obtain ⟨s, rfl⟩ := List.length_eq_one_iff.1 this
          exact hne s rfl
  cases e with
  | normal => exact fin hk
  | ret => exact fin hk
  | _ => exact hk.elim

/-- A call whose arguments speak of no box, from within a larger state. -/
theorem Tr.frame {f : FuncId} {args : List SV} {H : Hp} {Q k : SV → Hp → Prop} (h : Tr P f args ⟨0, [], [], H.g⟩ Q) (ha : blwL 0 args = true)
    (hk : ∀ r H', Q r H' → blw 0 r = true ∧ ((∀ a v, H.g a = some v → H'.g a = some v) → k r { H with g := H'.g, rows := H.rows ++ H'.rows })) : Tr P f args H k := by
  refine ⟨fun β w xs R hd => ?_⟩
  have R0 : Rep [] ⟨0, [], [], H.g⟩ w := ⟨rfl, rfl, fun i cs b h => by simp at h, fun r hr => by simp at hr, by simp [owned], fun a v hg => ⟨(R.g a v hg).1, by simp [owned]⟩⟩
  refine (h.run [] w xs R0 (DenL.free ha hd)).mono ?_
  rintro x w' ⟨r, H', β', h1, h2, h3, h4⟩
  obtain ⟨hr, hk⟩ := hk r H' h4
  have hfr : ∀ k, k < w.heap.size → w'.heap[k]? = w.heap[k]? := fun k hk => h3.fr.block k hk (by simp [owned])
  have hO : ∀ b ∈ owned β H, b < w.heap.size := R.blt
  have hnew : ∀ b ∈ H'.rows.filterMap (·.v.ownBlock), w.heap.size ≤ b := by
    intro b hb
    rcases h3.own b (List.mem_append_right _ hb) with h | h
    · simp [owned] at h
    · exact h
  have hown : ∀ b, b ∈ owned β { H with g := H'.g, rows := H.rows ++ H'.rows } ↔ b ∈ owned β H ∨ b ∈ H'.rows.filterMap (·.v.ownBlock) := by
    intro b
    simp only [owned, List.filterMap_append, List.mem_append]
    constructor
    · rintro (h | h | h)
      · exact .inl (.inl h)
      · exact .inl (.inr h)
      · exact .inr h
    · rintro ((h | h) | h)
      · exact .inl h
      · exact .inr (.inl h)
      · exact .inr (.inr h)
  have hnd' : (H'.rows.filterMap (·.v.ownBlock)).Nodup := (List.nodup_append.1 h2.nd).2.1
  refine ⟨r, _, β, Den.free hr h1, ?_, ?_, hk h3.g⟩
  · refine ⟨R.len, R.nb, ?_, ?_, ?_, ?_⟩
    · intro i cs b hi hb
      obtain ⟨ys, t, h5, h6⟩ := R.box i cs b hi hb
      exact ⟨ys, t, h5, by rw [hfr _ (Array.getElem?_eq_some_iff.1 h6).1]; exact h6⟩
    · intro r' hr'
      rcases List.mem_append.1 hr' with hr' | hr'
      · refine (R.row r' hr').kept (row := none) ⟨h3.fr.os, h3.fr.tape, h3.fr.output, h3.fr.size, fun b hb _ => hfr b hb⟩ ?_
        cases r'.v.ownBlock with
        | none => exact .inl rfl
        | some g => exact .inr (by simp)
      · exact h2.row r' hr'
    · have : owned β { H with g := H'.g, rows := H.rows ++ H'.rows } = owned β H ++ H'.rows.filterMap (·.v.ownBlock) := by simp [owned]
      rw [this]
      refine List.nodup_append.2 ⟨R.nd, hnd', ?_⟩
      intro a ha b hb e
      subst e
      have := hO a ha
      have := hnew a hb
      omega
    · intro a v hg
      obtain ⟨h5, h6⟩ := h2.g a v hg
      refine ⟨h5, fun hm => ?_⟩
      rcases (hown _).1 hm with hm | hm
      · rcases h3.gn a v hg with h7 | h7 | h7
        · exact (R.g a v h7).2 hm
        · simp [owned] at h7
        · have := hO _ hm; omega
      · exact h6 (List.mem_append_right _ hm)
  · refine ⟨List.prefix_refl _, ⟨h3.fr.os, h3.fr.tape, h3.fr.output, h3.fr.size, fun k hk _ => hfr k hk⟩, ?_, h3.g, ?_⟩
    · intro b hb
      rcases (hown b).1 hb with hb | hb
      · exact .inl hb
      · exact .inr (hnew b hb)
    · intro a v hg
      rcases h3.gn a v hg with h7 | h7 | h7
      · exact .inl h7
      · simp [owned] at h7
      · exact .inr (.inr h7)

/-- A call that only tells a value. -/
theorem Tr.pure {f : FuncId} {args : List SV} {H : Hp} {r0 : SV} {k : SV → Hp → Prop} (h : Tr P f args ⟨0, [], [], H.g⟩ fun r _ => r = r0) (ha : blwL 0 args = true) (hr : blw 0 r0 = true) (hk : k r0 H) : Tr P f args H k := by
  refine ⟨fun β w xs R hd => ?_⟩
  have h' : Tr P f args H (fun r H' => r = r0 ∧ H'.nb = H.nb ∧ H'.boxes = H.boxes ∧ (∃ l, H'.rows = H.rows ++ l) ∧ ∀ a v, H.g a = some v → H'.g a = some v) :=
    Tr.frame h ha fun r H' hrr => ⟨by rw [hrr]; exact hr, fun hg => ⟨hrr, rfl, rfl, ⟨_, rfl⟩, hg⟩⟩
  refine (h'.run β w xs R hd).mono ?_
  rintro x w' ⟨r, H', β', h1, h2, h3, rfl, h4, h5, ⟨l, h6⟩, h7⟩
  have hβ : β' = β := by
    have := h3.pre
    refine (List.IsPrefix.eq_of_length this ?_).symm
    rw [R.len, h2.len, h5]
  subst hβ
  have hsub : ∀ b ∈ owned β' H, b ∈ owned β' H' := by
    intro b hb
    simp only [owned, h6, List.filterMap_append, List.mem_append] at hb ⊢
    rcases hb with hb | hb
    · exact .inl hb
    · exact .inr (.inl hb)
  refine ⟨r, H, β', h1, ⟨R.len, R.nb, fun i cs b hi hb => h2.box i cs b (h5 ▸ hi) hb, fun r' hr' => h2.row r' (by rw [h6]; exact List.mem_append_left _ hr'), R.nd, fun a v hg => ⟨(h2.g a v (h7 a v hg)).1, (R.g a v hg).2⟩⟩,
    ⟨List.prefix_refl _, h3.fr, fun b hb => .inl hb, fun _ _ h => h, fun _ _ h => .inl h⟩, hk⟩
end
end Go.Sx
