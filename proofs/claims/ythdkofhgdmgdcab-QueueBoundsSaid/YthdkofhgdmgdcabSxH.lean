import Derived.Test.YthdkofhgdmgdcabSxG
/- Sx, part H: shorter ways in; loops round by round; numbers. -/
set_option linter.unusedVariables false
set_option linter.unusedSimpArgs false
namespace Go.Sx
open Go

def bodyOf (fn : Func) : Code := match fn.body with | some c => c | none => .skip
def okFn (fn : Func) (m : Nat) : Bool := fn.body.isSome && !(fn.name == "runtime.NumGoroutine") && Nat.ble m fn.ntmps
def retK (T : List TI) (fn : Func) (Q : SV → Hp → Prop) : Exit → Env → Hp → Prop := fun e E' H' => match e with
  | .normal => resL T fn.results.toList E' H' fun l => Q (pack l) H'
  | .ret => resL T fn.results.toList E' H' fun l => Q (pack l) H'
  | _ => False
section
variable {P : Program}
theorem Tr.of_body {T : List TI} (hT : TabOk T P) {f : FuncId} {fn : Func} {args : List SV} {H : Hp} {Q : SV → Hp → Prop} (hf : P.funcs[f]? = some fn) (hok : okFn fn args.length = true)
    (h : vcC T P fn.ntmps [] (bodyOf fn) (argsEnv 0 args) H (retK T fn Q)) : Tr P f args H Q := by
  simp only [okFn, Bool.and_eq_true, Bool.not_eq_true'] at hok
  obtain ⟨⟨h1, h2⟩, h3⟩ := hok
  obtain ⟨c, hc⟩ := Option.isSome_iff_exists.1 h1
  refine Tr.of_vc hT (c := c) (n := fn.ntmps) (rs := fn.results) hf h2 hc rfl rfl h3 ?_
  have : bodyOf fn = c := by simp [bodyOf, hc]
  rw [this] at h
  exact h
/-- Round by round. -/
noncomputable def rounds (T : List TI) (P : Program) (n : Nat) (D : List Deferred) (c : Code) (K : Exit → Env → Hp → Prop) (m : Nat) : Env → Hp → Prop :=
  Nat.rec (motive := fun _ => Env → Hp → Prop) (fun _ _ => False) (fun _ next E H => vcC T P n D c E H (seqK (fun E H _ => next E H) K)) m
theorem rounds_succ' {T : List TI} {P : Program} {n : Nat} {D : List Deferred} {c : Code} {K : Exit → Env → Hp → Prop} {m : Nat} {E : Env} {H : Hp} :
    rounds T P n D c K (m + 1) E H = vcC T P n D c E H (seqK (fun E H _ => rounds T P n D c K m E H) K) := rfl
theorem Sx.unroll {T : List TI} (hT : TabOk T P) {n : Nat} {D : List Deferred} {c : Code} {K : Exit → Env → Hp → Prop} (m : Nat) {E : Env} {H : Hp} (h : rounds T P n D c K m E H) : Sx P n D (.loop c) E H K := by
  refine ⟨fun β a w R => ?_⟩
  refine wp_loopG (fun (p : Nat) a' w' => ∃ β' E' H', RepA n D β' E' H' a' w' ∧ Ext β H w β' H' w' ∧ rounds T P n D c K p E' H') (fun p => p) m ⟨β, E, H, R, Ext.refl _ _ _, h⟩ ?_
  rintro p a1 w1 ⟨β1, E1, H1, R1, X1, h1⟩
  cases p with
  | zero => exact h1.elim
  | succ p =>
    rw [rounds_succ'] at h1
    refine wp_mono ((Sx.of_vc hT c h1).run β1 a1 w1 R1) ?_
    rintro e a2 w2 ⟨β2, E2, H2, R2, X2, hk⟩
    cases e with
    | normal => exact ⟨p, ⟨β2, E2, H2, R2, X1.trans X2, hk⟩, Nat.lt_succ_self _⟩
    | exit j => exact ⟨β2, E2, H2, R2, X1.trans X2, hk⟩
    | goto j => exact ⟨β2, E2, H2, R2, X1.trans X2, hk⟩
    | ret => exact ⟨β2, E2, H2, R2, X1.trans X2, hk⟩
    | panic ch => exact ⟨β2, E2, H2, R2, X1.trans X2, hk⟩
    | outgrown => exact ⟨β2, E2, H2, R2, X1.trans X2, hk⟩
/-- A loop by an invariant, each round by its own conditions. -/
theorem Sx.loopV {T : List TI} (hT : TabOk T P) {n : Nat} {D : List Deferred} {c : Code} {E : Env} {H : Hp} {K : Exit → Env → Hp → Prop} {ι : Type} (I : ι → Env) (J : ι → Hp) (μ : ι → Nat) (i0 : ι)
    (h0 : Back (I i0) (J i0) E H) (hnb : (J i0).nb = H.nb) (hg : ∀ a v, H.g a = some v → (J i0).g a = some v)
    (step : ∀ i, vcC T P n D c (I i) (J i) fun e E' H' => match e with
      | .normal => ∃ i', μ i' < μ i ∧ (J i').nb = (J i).nb ∧ (∀ a v, (J i).g a = some v → (J i').g a = some v) ∧ Back (I i') (J i') E' H'
      | e => K e E' H') : Sx P n D (.loop c) E H K :=
  Sx.loop I J μ i0 h0 hnb hg fun i => Sx.of_vc hT c (step i)
end

/-! ### Numbers -/
theorem wrap_i64 {n : Int} (h1 : -9223372036854775808 ≤ n) (h2 : n ≤ 9223372036854775807) : IntKind.wrap .i64 n = n := by
  show (let m := n % (2 ^ 64 : Int); if (true && decide (m ≥ (2 ^ 63 : Int))) = true then m - (2 ^ 64 : Int) else m) = n
  simp only [Bool.true_and, decide_eq_true_eq]
  split <;> omega
theorem wrap_i64_eq (n : Int) : IntKind.wrap .i64 n = if n % 18446744073709551616 ≥ 9223372036854775808 then n % 18446744073709551616 - 18446744073709551616 else n % 18446744073709551616 := by
  show (let m := n % (2 ^ 64 : Int); if (true && decide (m ≥ (2 ^ 63 : Int))) = true then m - (2 ^ 64 : Int) else m) = _
  simp only [Bool.true_and, decide_eq_true_eq]
  rfl
theorem min2_min (x y : Int) : min2 .min .i64 x y = min x y := by unfold min2; simp only [Int.min_def]; split <;> split <;> omega
theorem min2_max (x y : Int) : min2 .max .i64 x y = max x y := by unfold min2; simp only [Int.max_def]; split <;> split <;> omega

end Go.Sx
