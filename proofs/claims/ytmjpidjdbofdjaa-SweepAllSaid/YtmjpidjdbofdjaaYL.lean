import Derived.Test.YtmjpidjdbofdjaaYK
/- Sy, part L: loops by invariants; functions; contracts. -/
set_option linter.unusedVariables false
set_option linter.unusedSimpArgs false
namespace Go.Sy
open Go

theorem Cd.loop {P : Program} {n : Nat} {ro : Option Nat} {c : Code} {E : Env} {H : Hp} {K : Exit → Env → Hp → Prop} {ι : Type} (I : ι → Env) (J : ι → Hp) (μ : ι → Nat) (i0 : ι)
    (h0 : Back (I i0) (J i0) E H) (hnb : ∀ i, (J i).nb = H.nb)
    (step : ∀ i, Cd P n ro c (I i) (J i) fun e E' H' => match e with
      | .normal => ∃ i', μ i' < μ i ∧ Back (I i') (J i') E' H'
      | e => K e E' H') : Cd P n ro (.loop c) E H K := by
  refine ⟨fun b0 β a w R => ?_⟩
  obtain ⟨R0, X0⟩ := R.back h0 (Ext.refl β H w) (by rw [hnb, R.rep.nb, R.rep.len]; exact Nat.le_refl _)
  refine wpIn_loopG (fun (p : ι × Gh) a' w' => RepA n b0 p.2 (I p.1) (J p.1) a' w' ∧ Ext β H w p.2 (J p.1) w') (fun p => μ p.1) (i0, _) ⟨R0, X0⟩ ?_
  rintro ⟨i, β1⟩ a1 w1 ⟨R1, X1⟩
  simp only at R1 X1
  refine wpIn_mono ((step i).run b0 β1 a1 w1 R1) ?_
  rintro e a2 w2 ⟨β2, E2, H2, R2, X2, hk⟩
  cases e with
  | normal =>
    obtain ⟨i', hlt, hb⟩ := hk
    have X12 := X1.trans X2
    obtain ⟨R3, X3⟩ := R2.back hb X12 (by rw [hnb, R.rep.nb, R.rep.len]; exact Nat.le_refl _)
    exact ⟨(i', _), ⟨R3, X3⟩, hlt⟩
  | exit j => exact ⟨β2, E2, H2, R2, X1.trans X2, hk⟩
  | goto j => exact ⟨β2, E2, H2, R2, X1.trans X2, hk⟩
  | ret => exact ⟨β2, E2, H2, R2, X1.trans X2, hk⟩
  | panic ch => exact ⟨β2, E2, H2, R2, X1.trans X2, hk⟩
  | outgrown => exact ⟨β2, E2, H2, R2, X1.trans X2, hk⟩
/-- Round by round. -/
noncomputable def rounds (T : List TI) (P : Program) (n : Nat) (ro : Option Nat) (c : Code) (K : Exit → Env → Hp → Prop) (m : Nat) : Env → Hp → Prop :=
  Nat.rec (motive := fun _ => Env → Hp → Prop) (fun _ _ => False) (fun _ next E H => vcC T P n ro c E H (seqK (fun E H _ => next E H) K)) m
theorem rounds_succ' {T : List TI} {P : Program} {n : Nat} {ro : Option Nat} {c : Code} {K : Exit → Env → Hp → Prop} {m : Nat} {E : Env} {H : Hp} :
    rounds T P n ro c K (m + 1) E H = vcC T P n ro c E H (seqK (fun E H _ => rounds T P n ro c K m E H) K) := rfl
theorem Cd.unroll {P : Program} {T : List TI} (hT : TabOk T P) {n : Nat} {ro : Option Nat} {c : Code} {K : Exit → Env → Hp → Prop} (m : Nat) {E : Env} {H : Hp} (h : rounds T P n ro c K m E H) : Cd P n ro (.loop c) E H K := by
  refine ⟨fun b0 β a w R => ?_⟩
  refine wpIn_loopG (fun (p : Nat) a' w' => ∃ β' E' H', RepA n b0 β' E' H' a' w' ∧ Ext β H w β' H' w' ∧ rounds T P n ro c K p E' H') (fun p => p) m ⟨β, E, H, R, Ext.refl _ _ _, h⟩ ?_
  rintro p a1 w1 ⟨β1, E1, H1, R1, X1, h1⟩
  cases p with
  | zero => exact h1.elim
  | succ p =>
    rw [rounds_succ'] at h1
    refine wpIn_mono ((Cd.of_vc hT c h1).run b0 β1 a1 w1 R1) ?_
    rintro e a2 w2 ⟨β2, E2, H2, R2, X2, hk⟩
    cases e with
    | normal => exact ⟨p, ⟨β2, E2, H2, R2, X1.trans X2, hk⟩, Nat.lt_succ_self _⟩
    | exit j => exact ⟨β2, E2, H2, R2, X1.trans X2, hk⟩
    | goto j => exact ⟨β2, E2, H2, R2, X1.trans X2, hk⟩
    | ret => exact ⟨β2, E2, H2, R2, X1.trans X2, hk⟩
    | panic ch => exact ⟨β2, E2, H2, R2, X1.trans X2, hk⟩
    | outgrown => exact ⟨β2, E2, H2, R2, X1.trans X2, hk⟩
/-- A loop by an invariant, each round by its own conditions. -/
theorem Cd.loopV {P : Program} {T : List TI} (hT : TabOk T P) {n : Nat} {ro : Option Nat} {c : Code} {E : Env} {H : Hp} {K : Exit → Env → Hp → Prop} {ι : Type} (I : ι → Env) (J : ι → Hp) (μ : ι → Nat) (i0 : ι)
    (h0 : Back (I i0) (J i0) E H) (hnb : ∀ i, (J i).nb = H.nb)
    (step : ∀ i, vcC T P n ro c (I i) (J i) fun e E' H' => match e with
      | .normal => ∃ i', μ i' < μ i ∧ Back (I i') (J i') E' H'
      | e => K e E' H') : Cd P n ro (.loop c) E H K :=
  Cd.loop I J μ i0 h0 hnb fun i => Cd.of_vc hT c (step i)
/-- A state may be told in another way, ahead of any code. -/
theorem Cd.back {P : Program} {n : Nat} {ro : Option Nat} {c : Code} {E E' : Env} {H J : Hp} {K : Exit → Env → Hp → Prop} (h : Back E' J E H) (hnb : J.nb = H.nb) (k : Cd P n ro c E' J K) : Cd P n ro c E H K :=
  ⟨fun b0 β a w R => by
    obtain ⟨R0, X0⟩ := R.back h (Ext.refl β H w) (by rw [hnb, R.rep.nb, R.rep.len]; exact Nat.le_refl _)
    exact wpIn_mono (k.run b0 _ a w R0) fun _ _ _ ⟨β2, E2, H2, R2, X2, h2⟩ => ⟨β2, E2, H2, R2, X0.trans X2, h2⟩⟩
/-- A row that is nothing yet. -/
theorem Rep.nilRow {β : Gh} {H : Hp} {w : World} (R : Rep β H w) (e sz : Nat) : Rep β { H with rows := H.rows ++ [⟨none, 0, 0, e, sz, [], false⟩] } w ∧ Ext β H w β { H with rows := H.rows ++ [⟨none, 0, 0, e, sz, [], false⟩] } w :=
  R.rowAdd (r' := ⟨none, 0, 0, e, sz, [], false⟩) ⟨[], rfl, by simp, rfl, ⟨World.ownsRow_nil w 0 e sz, by simp [cellsL]⟩⟩ ⟨rfl, rfl, rfl, Nat.le_refl _⟩ (fun _ _ => rfl) (fun b h => by simp [Row.blk] at h)
theorem Cd.nilRow {P : Program} {n : Nat} {ro : Option Nat} {c : Code} {E : Env} {H : Hp} {K : Exit → Env → Hp → Prop} (e sz : Nat) (h : addRow H ⟨none, 0, 0, e, sz, [], false⟩ fun _ H' => Cd P n ro c E H' K) : Cd P n ro c E H K := by
  replace h := addRow_eq h
  refine ⟨fun b0 β a w R => ?_⟩
  obtain ⟨R', X'⟩ := R.rep.nilRow e sz
  exact wpIn_mono (h.run b0 β a w ⟨R', R.size, R.defs.ext X', R.env⟩) fun _ _ _ ⟨β2, E2, H2, R2, X2, h2⟩ => ⟨β2, E2, H2, R2, X'.trans X2, h2⟩

/-! ### Functions -/
def resL (T : List TI) : List ResultVar → Env → Hp → (List SV → Prop) → Prop
  | [], _, _, k => k []
  | x :: r, E, H, k => match x with
    | .tmp t => nd (get E.ts t) fun s => resL T r E H fun l => k (s :: l)
    | .cell a t => nd (getT T t) fun i => nd (get E.ts a) fun s => ldS H i s fun s _ => resL T r E H fun l => k (s :: l)
def pack (l : List SV) : SV :=
  match l with
  | [s] => s
  | l => .tup l
def argsTs : Nat → List SV → List (Nat × SV)
  | _, [] => []
  | i, s :: r => (i, s) :: argsTs (i + 1) r
def resOne (tmps : Array Value) : ResultVar → Sem Value
  | .tmp t => pure (tmps.getD t undef)
  | .cell b t => do loadVar t (← asAddr (tmps.getD b undef))
theorem results_eq (fn : Func) (tmps : Array Value) : results fn tmps = (do let vs ← fn.results.mapM (resOne tmps); pure (if h : vs.size = 1 then vs[0] else .tuple vs) : Sem Value) := by
  have : (fun (x : ResultVar) => match x with
    | .tmp t => (pure (tmps.getD t undef) : Sem Value)
    | .cell a t => do loadVar t (← asAddr (tmps.getD a undef))) = resOne tmps := by
    funext x
    cases x <;> rfl
  unfold results
  rw [← this]
  rfl
section
variable {P : Program}
theorem resL_run {T : List TI} (hT : TabOk T P) {n b0 : Nat} {β : Gh} {E : Env} {H : Hp} {a : Act} {w : World} (R : RepA n b0 β E H a w) : ∀ (l : List ResultVar) (k : List SV → Prop), resL T l E H k →
    ∃ ss ys, k ss ∧ DenL β ss ys ∧ (l.mapM (resOne a.tmps)).run P w = .ok ys w
  | [], k, h => ⟨[], [], h, rfl, rfl⟩
  | x :: r, k, h => by
    unfold resL at h
    split at h
    · rename_i t
      obtain ⟨s, hs, h⟩ := nd_elim h
      obtain ⟨ss, ys, h1, h2, h3⟩ := resL_run hT R r _ h
      obtain ⟨y, hy, hd⟩ := R.env t s hs
      refine ⟨s :: ss, y :: ys, h1, ⟨y, ys, hd, h2, rfl⟩, ?_⟩
      simp only [List.mapM_cons, resOne, Sem.run_bind, Sem.run_pure, Result.andThen_ok]
      rw [h3]
      simp [hy]
    · rename_i b t
      obtain ⟨i, hi, h⟩ := nd_elim h
      obtain ⟨s, hs, h⟩ := nd_elim h
      obtain ⟨ti⟩ := hT.get hi
      obtain ⟨y, hy, hd⟩ := R.env b s hs
      obtain ⟨z, s', hz, hdz, h⟩ := ldS_run R.rep ti hd h
      obtain ⟨ss, ys, h1, h2, h3⟩ := resL_run hT R r _ h
      refine ⟨s' :: ss, z :: ys, h1, ⟨z, ys, hdz, h2, rfl⟩, ?_⟩
      have hyy : a.tmps.getD b undef = y := by simp [hy]
      have hz' : (do loadVar t (← asAddr y) : Sem Value).run P w = .ok z w := by
        have : ∃ ad, y = .pointer (some ad) := by
          unfold Instr.loadAt Instr.sureAddr at hz
          cases y with
          | pointer p => cases p with
            | none => simp [stuck, Sem.run] at hz
            | some ad => exact ⟨ad, rfl⟩
          | _ => simp [stuck, Sem.run] at hz
        obtain ⟨ad, rfl⟩ := this
        simpa [Instr.loadAt, Instr.sureAddr, asAddr] using hz
      simp only [List.mapM_cons, resOne, Sem.run_bind, hyy]
      simp only [Sem.run_bind] at hz'
      rw [hz']
      simp only [Result.andThen_ok]
      rw [h3]
      simp
theorem argsTs_get : ∀ {l : List SV} {i t : Nat} {s : SV}, get (argsTs i l) t = some s → i ≤ t ∧ l[t - i]? = some s
  | [], i, t, s, h => by simp [argsTs, get] at h
  | x :: r, i, t, s, h => by
    simp only [argsTs, get] at h
    split at h
    · rename_i hb
      have hb := Nat.eq_of_beq_eq_true hb
      injection h with h; subst h; subst hb
      exact ⟨Nat.le_refl _, by simp⟩
    · rename_i hb
      have hb := Nat.ne_of_beq_eq_false hb
      obtain ⟨h1, h2⟩ := argsTs_get h
      refine ⟨by omega, ?_⟩
      rw [show t - i = (t - (i + 1)) + 1 by omega]
      simpa using h2
/-- Marks of loops over functions are taken in, one by one. -/
theorem leaves_marks {fn : Func} {n b0 : Nat} {E : Env} {H : Hp} {β : Gh} {tmps : Array Value} {Φ : Ending → World → Prop} (hn : tmps.size = n) (henv : EnvOk β E.ts tmps) : ∀ (ds : List Deferred) (w : World), Rep β H w → DefOk b0 β (owned β H) w [] ds →
    (∀ w', Rep β H w' → w'.os = w.os → w'.tape = w.tape → w'.output = w.output → w'.heap.size = w.heap.size → (∀ k, k < b0 → w'.heap[k]? = w.heap[k]?) → (∀ k, k ∈ owned β H → w'.heap[k]? = w.heap[k]?) → ∃ v, (results fn tmps).run P w' = .ok v w' ∧ Φ (.returned v) w') →
    LeavesInM (W0 none) 0 P fn tmps Φ ds .returning w
  | [], w, R, hd, h => by
    obtain ⟨v, h1, h2⟩ := h w R rfl rfl rfl rfl (fun _ _ => rfl) (fun _ _ => rfl)
    exact ⟨v, h1, h2⟩
  | d :: r, w, R, hd, h => by
    rcases hd with ⟨m, rfl, h0, h2, h3, h4, h5⟩ | ⟨s, ds', h1, _⟩
    · have hlt := (Array.getElem?_eq_some_iff.1 h3).1
      have hoth : ∀ k, k ≠ m → (w.heap.setIfInBounds m (.deferred none))[k]? = w.heap[k]? := fun k hk => by simp [Ne.symm hk]
      have hne : ∀ {b}, b ∈ owned β H → b ≠ m := fun hb e => h2 (e ▸ hb)
      have R' : Rep β H { w with heap := w.heap.setIfInBounds m (.deferred none) } := by
        refine ⟨R.len, R.nb, fun i x b hi hb => ?_, fun r hr => ?_, R.nd, fun a v hg => ?_⟩
        · exact (R.box i x b hi hb).mono (Gle.refl _) (by simp) (hoth b (hne (List.mem_append_left _ (List.mem_of_getElem? hb))))
        · exact (R.row r hr).mono (Gle.refl _) (by simp) fun b hb => hoth b (hne (List.mem_append_right _ (List.mem_filterMap.2 ⟨r, hr, hb⟩)))
        · obtain ⟨g1, g2⟩ := R.g a v hg
          refine ⟨?_, g2⟩
          have : a.block ≠ m := by
            intro e
            unfold World.cell? at g1
            rw [e, h3] at g1
            cases g1
          rw [World.cell?_of_block (w := w) (hoth a.block this)]; exact g1
      have D' : DefOk b0 β (owned β H) { w with heap := w.heap.setIfInBounds m (.deferred none) } [] r := by
        have : ∀ {r : List Deferred} {ds : List SV}, markOf m ∉ r → DefOk b0 β (owned β H) w ds r → DefOk b0 β (owned β H) { w with heap := w.heap.setIfInBounds m (.deferred none) } ds r := by
          intro r
          induction r with
          | nil => exact fun _ k => ⟨k.1, by simpa using k.2⟩
          | cons d r ih =>
            intro ds hm k
            have hm' : markOf m ∉ r := fun h => hm (List.mem_cons_of_mem _ h)
            rcases k with ⟨m2, rfl, k0, k2, k3, k4, k5⟩ | ⟨s, ds', k1, k2, k3⟩
            · have hmm : m2 ≠ m := fun e => hm (by rw [e]; exact List.mem_cons_self ..)
              exact .inl ⟨m2, rfl, k0, k2, (hoth m2 hmm).trans k3, k4, ih hm' k5⟩
            · exact .inr ⟨s, ds', k1, k2, ih hm' k3⟩
        exact this h4 h5
      refine ⟨by simp, .inl ⟨m, _, rfl, ?_, leaves_marks hn henv r _ R' D' fun w' R2 e1 e2 e3 e4 e5 e6 => ?_⟩⟩
      · simp [Instr.takeDeferred, getObj, setObj, Sem.run, h3, Sem.run_pure]
      · refine h w' R2 e1 e2 e3 (by rw [e4]; simp) (fun k hk => (e5 k hk).trans (hoth k (by omega))) (fun k hk => (e6 k hk).trans (hoth k (hne hk)))
    · cases h1
end
end Go.Sy

