import Derived.Test.YthdkofhgdmgdcaaTab
import Derived.Test.YthdkofhgdmgdcaaSxK
set_option linter.unusedVariables false
set_option linter.unusedSimpArgs false
namespace Go.Proofs.Ythdkofhgdmgdcaa
open Go Go.Sx

abbrev iv (n : Int) : SV := .v (.int .i64 n)
abbrev cfg (a b c d e f g h : Int) : SV := .agg [iv a, iv b, iv c, iv d, iv e, iv f, iv g, iv h]
abbrev H0 (g : Addr → Option Value) : Hp := ⟨0, [], [], g⟩

theorem size_tr (g : Addr → Option Value) : Tr Try.prog 22 [iv 42] (H0 g) fun r _ => r = iv 92 := by
  refine Tr.of_body tabOk Try.func22 (by kernel_rfl) ?_
  conv => whnf
  rfl

def lowRoom (b : Int) : Int := min (max b 0) 8 + 3
def spanL (b : Int) : List SV := [.clo (.func 31) [] [], iv 2, iv 8, .clo (.func 32) [] [], iv 1, iv 8, .clo (.func 33) [] [], iv 3, iv 6, .clo (.func 34) [] [], iv (lowRoom b), iv 24,
  .clo (.func 35) [] [], iv 1, iv 4, .clo (.func 36) [] [], iv 1, iv 8, .clo (.func 37) [] [], iv 2, iv 8, .clo (.func 38) [] [], iv 1, iv 2147483647]
set_option maxRecDepth 100000 in
theorem spans_tr (a b c d e f g h : Int) (G : Addr → Option Value) : Tr Try.prog 25 [cfg a b c d e f g h] (H0 G) fun r _ => r = .agg (spanL b) := by
  refine Tr.of_body tabOk Try.func25 (by kernel_rfl) ?_
  conv => whnf
  rw [min2_max, min2_min, wrap_i64 (by omega) (by omega)]
  rfl
def cok (a b c d e f g h : Int) : Bool := decide (2 ≤ a ∧ a ≤ 8 ∧ 1 ≤ b ∧ b ≤ 8 ∧ 3 ≤ c ∧ c ≤ 6 ∧ b + 3 ≤ d ∧ d ≤ 24 ∧ 1 ≤ e ∧ e ≤ 4 ∧ 1 ≤ f ∧ f ≤ 8 ∧ 2 ≤ g ∧ g ≤ 8 ∧ 1 ≤ h ∧ h ≤ 2147483647)

theorem cok_no {a b c d e f g h : Int} (hn : ¬ (2 ≤ a ∧ a ≤ 8 ∧ 1 ≤ b ∧ b ≤ 8 ∧ 3 ≤ c ∧ c ≤ 6 ∧ b + 3 ≤ d ∧ d ≤ 24 ∧ 1 ≤ e ∧ e ≤ 4 ∧ 1 ≤ f ∧ f ≤ 8 ∧ 2 ≤ g ∧ g ≤ 8 ∧ 1 ≤ h ∧ h ≤ 2147483647)) : iv 1 = iv (if cok a b c d e f g h then 0 else 1) := by
  rw [if_neg (by simpa [cok] using hn)]
theorem cok_yes {a b c d e f g h : Int} (hn : 2 ≤ a ∧ a ≤ 8 ∧ 1 ≤ b ∧ b ≤ 8 ∧ 3 ≤ c ∧ c ≤ 6 ∧ b + 3 ≤ d ∧ d ≤ 24 ∧ 1 ≤ e ∧ e ≤ 4 ∧ 1 ≤ f ∧ f ≤ 8 ∧ 2 ≤ g ∧ g ≤ 8 ∧ 1 ≤ h ∧ h ≤ 2147483647) : iv 0 = iv (if cok a b c d e f g h then 0 else 1) := by
  rw [if_pos (by simpa [cok] using hn)]
set_option maxRecDepth 100000 in
theorem check_tr (a b c d e f g h : Int) (G : Addr → Option Value) : Tr Try.prog 16 [cfg a b c d e f g h] (H0 G) fun r _ => r = iv (if cok a b c d e f g h then 0 else 1) := by
  have hb : 1 ≤ b → b ≤ 8 → lowRoom b = b + 3 := by intro h1 h2; unfold lowRoom; omega
  refine Tr.of_body tabOk Try.func16 (by kernel_rfl) ?_
  conv => whnf
  refine Tr.pure (spans_tr ..) rfl rfl ?_
  conv => whnf
  refine Sx.unroll tabOk 10 ?_
  conv => whnf
  refine Tr.of_body tabOk Try.func31 (by kernel_rfl) ?_
  conv => whnf
  by_cases l0 : a < 2
  · rw [decide_eq_true l0]; conv => whnf
    exact cok_no (by omega)
  rw [decide_eq_false l0]; conv => whnf
  by_cases u0 : 8 < a
  · rw [decide_eq_true u0]; conv => whnf
    exact cok_no (by omega)
  rw [decide_eq_false u0]; conv => whnf
  refine Tr.of_body tabOk Try.func32 (by kernel_rfl) ?_
  conv => whnf
  by_cases l1 : b < 1
  · rw [decide_eq_true l1]; conv => whnf
    exact cok_no (by omega)
  rw [decide_eq_false l1]; conv => whnf
  by_cases u1 : 8 < b
  · rw [decide_eq_true u1]; conv => whnf
    exact cok_no (by omega)
  rw [decide_eq_false u1]; conv => whnf
  refine Tr.of_body tabOk Try.func33 (by kernel_rfl) ?_
  conv => whnf
  by_cases l2 : c < 3
  · rw [decide_eq_true l2]; conv => whnf
    exact cok_no (by omega)
  rw [decide_eq_false l2]; conv => whnf
  by_cases u2 : 6 < c
  · rw [decide_eq_true u2]; conv => whnf
    exact cok_no (by omega)
  rw [decide_eq_false u2]; conv => whnf
  refine Tr.of_body tabOk Try.func34 (by kernel_rfl) ?_
  conv => whnf
  by_cases l3 : d < lowRoom b
  · rw [decide_eq_true l3]; conv => whnf
    exact cok_no (by have := hb (by omega) (by omega); omega)
  rw [decide_eq_false l3]; conv => whnf
  by_cases u3 : 24 < d
  · rw [decide_eq_true u3]; conv => whnf
    exact cok_no (by omega)
  rw [decide_eq_false u3]; conv => whnf
  refine Tr.of_body tabOk Try.func35 (by kernel_rfl) ?_
  conv => whnf
  by_cases l4 : e < 1
  · rw [decide_eq_true l4]; conv => whnf
    exact cok_no (by omega)
  rw [decide_eq_false l4]; conv => whnf
  by_cases u4 : 4 < e
  · rw [decide_eq_true u4]; conv => whnf
    exact cok_no (by omega)
  rw [decide_eq_false u4]; conv => whnf
  refine Tr.of_body tabOk Try.func36 (by kernel_rfl) ?_
  conv => whnf
  by_cases l5 : f < 1
  · rw [decide_eq_true l5]; conv => whnf
    exact cok_no (by omega)
  rw [decide_eq_false l5]; conv => whnf
  by_cases u5 : 8 < f
  · rw [decide_eq_true u5]; conv => whnf
    exact cok_no (by omega)
  rw [decide_eq_false u5]; conv => whnf
  refine Tr.of_body tabOk Try.func37 (by kernel_rfl) ?_
  conv => whnf
  by_cases l6 : g < 2
  · rw [decide_eq_true l6]; conv => whnf
    exact cok_no (by omega)
  rw [decide_eq_false l6]; conv => whnf
  by_cases u6 : 8 < g
  · rw [decide_eq_true u6]; conv => whnf
    exact cok_no (by omega)
  rw [decide_eq_false u6]; conv => whnf
  refine Tr.of_body tabOk Try.func38 (by kernel_rfl) ?_
  conv => whnf
  by_cases l7 : h < 1
  · rw [decide_eq_true l7]; conv => whnf
    exact cok_no (by omega)
  rw [decide_eq_false l7]; conv => whnf
  by_cases u7 : 2147483647 < h
  · rw [decide_eq_true u7]; conv => whnf
    exact cok_no (by omega)
  rw [decide_eq_false u7]; conv => whnf
  exact cok_yes (by have := hb (by omega) (by omega); omega)

theorem mixed : Try.prog.follows .mixedOrders = true := by kernel_rfl
def sizeS (a b c d e f g h : Int) : Int := if cok a b c d e f g h then 92 * d else 0
def chunksS (a b c d e f g h : Int) : Int := if cok a b c d e f g h then (b + e - 1) / e else 0
def roundsS (a b c d e f g h : Int) : Int := if cok a b c d e f g h then a * (chunksS a b c d e f g h + 1) else 0
def workS (a b c d e f g h : Int) : Int := if cok a b c d e f g h then 9 * (b + 5) + 2 * d else 0
theorem cok_get {a b c d e f g h : Int} (hc : cok a b c d e f g h = true) : 2 ≤ a ∧ a ≤ 8 ∧ 1 ≤ b ∧ b ≤ 8 ∧ 3 ≤ c ∧ c ≤ 6 ∧ b + 3 ≤ d ∧ d ≤ 24 ∧ 1 ≤ e ∧ e ≤ 4 ∧ 1 ≤ f ∧ f ≤ 8 ∧ 2 ≤ g ∧ g ≤ 8 ∧ 1 ≤ h ∧ h ≤ 2147483647 := by simpa [cok] using hc

set_option maxRecDepth 100000 in
theorem size17 (a b c d e f g h : Int) (G : Addr → Option Value) : Tr Try.prog 17 [cfg a b c d e f g h] (H0 G) fun r _ => r = iv (sizeS a b c d e f g h) := by
  refine Tr.of_body tabOk Try.func17 (by kernel_rfl) ?_
  conv => whnf
  refine Tr.of_body tabOk Try.func26 (by kernel_rfl) ?_
  conv => whnf
  refine Tr.pure (check_tr ..) rfl rfl ?_
  by_cases hc : cok a b c d e f g h = true
  · simp only [hc, if_true]
    conv => whnf
    refine Tr.of_body tabOk Try.func27 (by kernel_rfl) ?_
    conv => whnf
    refine Sx.par tabOk mixed (by kernel_rfl) ?_
    conv => whnf
    refine CallQ.mk (size_tr _) rfl rfl ?_
    conv => whnf
    have := cok_get hc
    rw [wrap_i64 (by omega) (by omega)]
    show iv (d * 92) = _
    rw [sizeS, if_pos hc, Int.mul_comm]
  · simp only [hc]
    conv => whnf
    rw [sizeS, if_neg hc]
    rfl

-- the head of each function of the config's that is told by 'told'
set_option maxRecDepth 100000 in
theorem chunks18 (a b c d e f g h : Int) (G : Addr → Option Value) : Tr Try.prog 18 [cfg a b c d e f g h] (H0 G) fun r _ => r = iv (chunksS a b c d e f g h) := by
  refine Tr.of_body tabOk Try.func18 (by kernel_rfl) ?_
  conv => whnf
  refine Tr.of_body tabOk Try.func26 (by kernel_rfl) ?_
  conv => whnf
  refine Tr.pure (check_tr ..) rfl rfl ?_
  by_cases hc : cok a b c d e f g h = true
  · simp only [hc, if_true]
    conv => whnf
    refine Tr.of_body tabOk Try.func28 (by kernel_rfl) ?_
    conv => whnf
    have := cok_get hc
    refine nz_mk (by omega) ?_
    conv => whnf
    show iv _ = _
    have h1 : b + e - 1 = b + e - 1 := rfl
    rw [wrap_i64 (n := b + e) (by omega) (by omega), wrap_i64 (n := b + e - 1) (by omega) (by omega), Int.tdiv_eq_ediv_of_nonneg (by omega)]
    have h2 : 0 ≤ (b + e - 1) / e := Int.ediv_nonneg (by omega) (by omega)
    have h3 : (b + e - 1) / e ≤ b + e - 1 := Int.ediv_le_self _ (by omega)
    rw [wrap_i64 (by omega) (by omega), chunksS, if_pos hc]
  · simp only [hc]
    conv => whnf
    rw [chunksS, if_neg hc]
    rfl
theorem chunksS_bd {a b c d e f g h : Int} (hc : cok a b c d e f g h = true) : 1 ≤ chunksS a b c d e f g h ∧ chunksS a b c d e f g h ≤ 8 := by
  have := cok_get hc
  rw [chunksS, if_pos hc]
  refine ⟨?_, ?_⟩
  · exact (Int.le_ediv_iff_mul_le (by omega)).2 (by omega)
  · refine Int.le_of_lt_add_one ((Int.ediv_lt_iff_lt_mul (by omega)).2 ?_)
    have h1 : e = 1 ∨ e = 2 ∨ e = 3 ∨ e = 4 := by omega
    rcases h1 with rfl | rfl | rfl | rfl <;> omega
set_option maxRecDepth 100000 in
theorem rounds19 (a b c d e f g h : Int) (G : Addr → Option Value) : Tr Try.prog 19 [cfg a b c d e f g h] (H0 G) fun r _ => r = iv (roundsS a b c d e f g h) := by
  refine Tr.of_body tabOk Try.func19 (by kernel_rfl) ?_
  conv => whnf
  refine Tr.of_body tabOk Try.func26 (by kernel_rfl) ?_
  conv => whnf
  refine Tr.pure (check_tr ..) rfl rfl ?_
  by_cases hc : cok a b c d e f g h = true
  · simp only [hc, if_true]
    conv => whnf
    refine Tr.of_body tabOk Try.func29 (by kernel_rfl) ?_
    conv => whnf
    refine Sx.par tabOk mixed (by kernel_rfl) ?_
    conv => whnf
    refine CallQ.mk (chunks18 ..) rfl rfl ?_
    conv => whnf
    show iv _ = _
    have := cok_get hc
    have := chunksS_bd hc
    have h1 : 0 ≤ a * (chunksS a b c d e f g h + 1) := Int.mul_nonneg (by omega) (by omega)
    have h2 : a * (chunksS a b c d e f g h + 1) ≤ 8 * (8 + 1) := Int.mul_le_mul (by omega) (by omega) (by omega) (by omega)
    rw [wrap_i64 (n := chunksS a b c d e f g h + 1) (by omega) (by omega), wrap_i64 (by omega) (by omega), roundsS, if_pos hc]
  · simp only [hc]
    conv => whnf
    rw [roundsS, if_neg hc]
    rfl
set_option maxRecDepth 100000 in
theorem work20 (a b c d e f g h : Int) (G : Addr → Option Value) : Tr Try.prog 20 [cfg a b c d e f g h] (H0 G) fun r _ => r = iv (workS a b c d e f g h) := by
  refine Tr.of_body tabOk Try.func20 (by kernel_rfl) ?_
  conv => whnf
  refine Tr.of_body tabOk Try.func26 (by kernel_rfl) ?_
  conv => whnf
  refine Tr.pure (check_tr ..) rfl rfl ?_
  by_cases hc : cok a b c d e f g h = true
  · simp only [hc, if_true]
    conv => whnf
    refine Tr.of_body tabOk Try.func30 (by kernel_rfl) ?_
    conv => whnf
    show iv _ = _
    have := cok_get hc
    rw [wrap_i64 (n := b + 5) (by omega) (by omega), wrap_i64 (n := 9 * (b + 5)) (by omega) (by omega), wrap_i64 (n := 2 * d) (by omega) (by omega), wrap_i64 (by omega) (by omega), workS, if_pos hc]
  · simp only [hc]
    conv => whnf
    rw [workS, if_neg hc]
    rfl
def footS (a b c d e f g h : Int) : List Int := if cok a b c d e f g h then [c, 92 * d, b, 2 * f, 2 * a, g] else [0, 0, 0, 0, 0, 0]
theorem footS_length (a b c d e f g h : Int) : (footS a b c d e f g h).length = 6 := by unfold footS; split <;> rfl
set_option maxRecDepth 100000 in
theorem foot21 (a b c d e f g h : Int) (G : Addr → Option Value) : Tr Try.prog 21 [cfg a b c d e f g h] (H0 G) fun r _ => r = .agg (nums .i64 (footS a b c d e f g h)) := by
  refine Tr.of_body tabOk Try.func21 (by kernel_rfl) ?_
  conv => whnf
  refine Tr.pure (check_tr ..) rfl rfl ?_
  by_cases hc : cok a b c d e f g h = true
  · simp only [hc, if_true]
    conv => whnf
    refine Sx.parTail tabOk mixed 15 (by kernel_rfl) ?_
    conv => whnf
    refine CallQ.mk (size17 ..) rfl rfl ?_
    conv => whnf
    have := cok_get hc
    show SV.agg [_, _, _, _, _, _] = _
    rw [sizeS, if_pos hc, wrap_i64 (n := 2 * f) (by omega) (by omega), wrap_i64 (n := 2 * a) (by omega) (by omega), footS, if_pos hc]
    rfl
  · simp only [hc]
    conv => whnf
    rw [footS, if_neg hc]
    rfl
end Go.Proofs.Ythdkofhgdmgdcaa
