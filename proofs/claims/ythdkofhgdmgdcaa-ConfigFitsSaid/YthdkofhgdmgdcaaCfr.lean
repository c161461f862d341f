import Derived.Test.YthdkofhgdmgdcaaCfg
set_option linter.unusedVariables false
set_option linter.unusedSimpArgs false
namespace Go.Proofs.Ythdkofhgdmgdcaa
open Go Go.Sx

theorem in24 (n lo hi : Int) (G : Addr → Option Value) : Tr Try.prog 24 [iv n, iv lo, iv hi] (H0 G) fun r _ => r = .v (.bool (decide (lo ≤ n ∧ n ≤ hi))) := by
  refine Tr.of_body tabOk Try.func24 (by kernel_rfl) ?_
  conv => whnf
  by_cases h1 : lo ≤ n
  · rw [decide_eq_true h1]
    conv => whnf
    show SV.v (.bool (decide (n ≤ hi))) = _
    simp [h1]
  · rw [decide_eq_false h1]
    conv => whnf
    show SV.v (.bool false) = _
    simp [h1]
theorem rcheck_no {a b c d e f g h : Int} (hn : ¬ (2 ≤ a ∧ a ≤ 8 ∧ 1 ≤ b ∧ b ≤ 8 ∧ 3 ≤ c ∧ c ≤ 6 ∧ b + 3 ≤ d ∧ d ≤ 24 ∧ 1 ≤ e ∧ e ≤ 4 ∧ 1 ≤ f ∧ f ≤ 8 ∧ 2 ≤ g ∧ g ≤ 8 ∧ 1 ≤ h ∧ h ≤ 2147483647)) : SV.v (.bool false) = .v (.bool (cok a b c d e f g h)) := by
  rw [show cok a b c d e f g h = false by simpa [cok] using hn]
theorem rcheck_yes {a b c d e f g h : Int} (hn : 2 ≤ a ∧ a ≤ 8 ∧ 1 ≤ b ∧ b ≤ 8 ∧ 3 ≤ c ∧ c ≤ 6 ∧ b + 3 ≤ d ∧ d ≤ 24 ∧ 1 ≤ e ∧ e ≤ 4 ∧ 1 ≤ f ∧ f ≤ 8 ∧ 2 ≤ g ∧ g ≤ 8 ∧ 1 ≤ h ∧ h ≤ 2147483647) : SV.v (.bool true) = .v (.bool (cok a b c d e f g h)) := by
  rw [show cok a b c d e f g h = true by simpa [cok] using hn]
set_option maxRecDepth 100000 in
theorem rcheck10 (a b c d e f g h : Int) (G : Addr → Option Value) : Tr Try.prog 10 [cfg a b c d e f g h] (H0 G) fun r _ => r = .v (.bool (cok a b c d e f g h)) := by
  refine Tr.of_body tabOk Try.func10 (by kernel_rfl) ?_
  conv => whnf
  refine Tr.pure (in24 ..) rfl rfl ?_
  conv => whnf
  by_cases l0 : 2 ≤ a ∧ a ≤ 8
  case neg => rw [decide_eq_false l0]; conv => whnf
              exact rcheck_no (by omega)
  rw [decide_eq_true l0]
  conv => whnf
  refine Tr.pure (in24 ..) rfl rfl ?_
  conv => whnf
  by_cases l1 : 1 ≤ b ∧ b ≤ 8
  case neg => rw [decide_eq_false l1]; conv => whnf
              exact rcheck_no (by omega)
  rw [decide_eq_true l1]
  conv => whnf
  refine Tr.pure (in24 ..) rfl rfl ?_
  conv => whnf
  by_cases l2 : 3 ≤ c ∧ c ≤ 6
  case neg => rw [decide_eq_false l2]; conv => whnf
              exact rcheck_no (by omega)
  rw [decide_eq_true l2]
  conv => whnf
  rw [wrap_i64 (n := b + 3) (by omega) (by omega)]
  refine Tr.pure (in24 ..) rfl rfl ?_
  conv => whnf
  by_cases l3 : b + 3 ≤ d ∧ d ≤ 24
  case neg => rw [decide_eq_false l3]; conv => whnf
              exact rcheck_no (by omega)
  rw [decide_eq_true l3]
  conv => whnf
  refine Tr.pure (in24 ..) rfl rfl ?_
  conv => whnf
  by_cases l4 : 1 ≤ e ∧ e ≤ 4
  case neg => rw [decide_eq_false l4]; conv => whnf
              exact rcheck_no (by omega)
  rw [decide_eq_true l4]
  conv => whnf
  refine Tr.pure (in24 ..) rfl rfl ?_
  conv => whnf
  by_cases l5 : 1 ≤ f ∧ f ≤ 8
  case neg => rw [decide_eq_false l5]; conv => whnf
              exact rcheck_no (by omega)
  rw [decide_eq_true l5]
  conv => whnf
  refine Tr.pure (in24 ..) rfl rfl ?_
  conv => whnf
  by_cases l6 : 2 ≤ g ∧ g ≤ 8
  case neg => rw [decide_eq_false l6]; conv => whnf
              exact rcheck_no (by omega)
  rw [decide_eq_true l6]
  conv => whnf
  refine Tr.pure (in24 ..) rfl rfl ?_
  conv => whnf
  by_cases l7 : 1 ≤ h ∧ h ≤ 2147483647
  case neg => rw [decide_eq_false l7]; conv => whnf
              exact rcheck_no (by omega)
  rw [decide_eq_true l7]
  conv => whnf
  exact rcheck_yes (by omega)
set_option maxRecDepth 100000 in
theorem rsize11 (a b c d e f g h : Int) (G : Addr → Option Value) : Tr Try.prog 11 [cfg a b c d e f g h] (H0 G) fun r _ => r = iv (sizeS a b c d e f g h) := by
  refine Tr.of_body tabOk Try.func11 (by kernel_rfl) ?_
  conv => whnf
  refine Tr.pure (rcheck10 ..) rfl rfl ?_
  by_cases hc : cok a b c d e f g h = true
  · simp only [hc]
    conv => whnf
    show iv _ = _
    have := cok_get hc
    rw [wrap_i64 (by omega) (by omega), sizeS, if_pos hc]
  · simp only [hc]
    conv => whnf
    rw [sizeS, if_neg hc]
    rfl
set_option maxRecDepth 100000 in
theorem rchunks12 (a b c d e f g h : Int) (G : Addr → Option Value) : Tr Try.prog 12 [cfg a b c d e f g h] (H0 G) fun r _ => r = iv (chunksS a b c d e f g h) := by
  refine Tr.of_body tabOk Try.func12 (by kernel_rfl) ?_
  conv => whnf
  refine Tr.pure (rcheck10 ..) rfl rfl ?_
  by_cases hc : cok a b c d e f g h = true
  · simp only [hc]
    conv => whnf
    rw [chunksS, if_pos hc]
    have := cok_get hc
    have hb : b = 1 ∨ b = 2 ∨ b = 3 ∨ b = 4 ∨ b = 5 ∨ b = 6 ∨ b = 7 ∨ b = 8 := by omega
    have he : e = 1 ∨ e = 2 ∨ e = 3 ∨ e = 4 := by omega
    clear this hc
    refine Sx.unroll tabOk 10 ?_
    rcases hb with rfl | rfl | rfl | rfl | rfl | rfl | rfl | rfl <;> rcases he with rfl | rfl | rfl | rfl <;> (conv => whnf) <;> rfl
  · simp only [hc]
    conv => whnf
    rw [chunksS, if_neg hc]
    rfl
set_option maxRecDepth 100000 in
theorem rrounds13 (a b c d e f g h : Int) (G : Addr → Option Value) : Tr Try.prog 13 [cfg a b c d e f g h] (H0 G) fun r _ => r = iv (roundsS a b c d e f g h) := by
  refine Tr.of_body tabOk Try.func13 (by kernel_rfl) ?_
  conv => whnf
  refine Tr.pure (rcheck10 ..) rfl rfl ?_
  by_cases hc : cok a b c d e f g h = true
  · simp only [hc]
    conv => whnf
    refine Sx.par tabOk mixed (by kernel_rfl) ?_
    conv => whnf
    refine CallQ.mk (rchunks12 ..) rfl rfl ?_
    conv => whnf
    show iv _ = _
    have := cok_get hc
    have := chunksS_bd hc
    have h1 : 0 ≤ a * (chunksS a b c d e f g h + 1) := Int.mul_nonneg (by omega) (by omega)
    have h2 : a * (chunksS a b c d e f g h + 1) ≤ 8 * (8 + 1) := Int.mul_le_mul (by omega) (by omega) (by omega) (by omega)
    rw [wrap_i64 (n := chunksS a b c d e f g h + 1) (by omega) (by omega), wrap_i64 (by omega) (by omega), roundsS, if_pos hc]
  · simp only [hc]
    conv => whnf
    rw [roundsS, if_neg hc]
    rfl
set_option maxRecDepth 100000 in
theorem rwork14 (a b c d e f g h : Int) (G : Addr → Option Value) : Tr Try.prog 14 [cfg a b c d e f g h] (H0 G) fun r _ => r = iv (workS a b c d e f g h) := by
  refine Tr.of_body tabOk Try.func14 (by kernel_rfl) ?_
  conv => whnf
  refine Tr.pure (rcheck10 ..) rfl rfl ?_
  by_cases hc : cok a b c d e f g h = true
  · simp only [hc]
    conv => whnf
    show iv _ = _
    have := cok_get hc
    rw [wrap_i64 (n := b + 5) (by omega) (by omega), wrap_i64 (n := 9 * (b + 5)) (by omega) (by omega), wrap_i64 (n := 2 * d) (by omega) (by omega), wrap_i64 (by omega) (by omega), workS, if_pos hc]
  · simp only [hc]
    conv => whnf
    rw [workS, if_neg hc]
    rfl
set_option maxRecDepth 100000 in
theorem rfoot15 (a b c d e f g h : Int) (G : Addr → Option Value) : Tr Try.prog 15 [cfg a b c d e f g h] (H0 G) fun r _ => r = .agg (nums .i64 (footS a b c d e f g h)) := by
  refine Tr.of_body tabOk Try.func15 (by kernel_rfl) ?_
  conv => whnf
  refine Tr.pure (rcheck10 ..) rfl rfl ?_
  by_cases hc : cok a b c d e f g h = true
  · simp only [hc]
    conv => whnf
    refine Sx.parTail tabOk mixed 15 (by kernel_rfl) ?_
    conv => whnf
    refine CallQ.mk (rsize11 ..) rfl rfl ?_
    conv => whnf
    have := cok_get hc
    show SV.agg [_, _, _, _, _, _] = _
    rw [sizeS, if_pos hc, wrap_i64 (n := 2 * f) (by omega) (by omega), wrap_i64 (n := 2 * a) (by omega) (by omega), footS, if_pos hc]
    rfl
  · simp only [hc]
    conv => whnf
    rw [footS, if_neg hc]
    rfl
theorem plain23 (G : Addr → Option Value) : Tr Try.prog 23 [] (H0 G) fun r _ => r = cfg 3 5 3 10 2 2 3 1000 := by
  refine Tr.of_body tabOk Try.func23 (by kernel_rfl) ?_
  conv => whnf
  rfl
theorem info3 : Try.prog.info? 3 = some (Try.prog.info? 3).get! := by kernel_rfl
theorem eq27 {xs ys : List Int} (hx : xs.length = 6) (hy : ys.length = 6) {K : Bool → Prop} (h : K (decide (xs = ys))) : AggEq Try.prog .eql 27 (nums .i64 xs) (nums .i64 ys) K :=
  AggEq.ints Try.underlying27 Try.underlying3 info3 (by kernel_rfl) (by kernel_rfl) hx hy h
set_option maxRecDepth 100000 in
theorem works9 (G : Addr → Option Value) : Tr Try.prog 9 [] (H0 G) fun r _ => r = .v (.bool true) := by
  refine Tr.of_body tabOk Try.func9 (by kernel_rfl) ?_
  conv => whnf
  refine Tr.pure (plain23 _) rfl rfl ?_
  conv => whnf
  refine Tr.pure (check_tr 3 5 3 10 2 2 3 1000 _) rfl rfl ?_
  conv => whnf
  refine Tr.pure (check_tr 3 5 3 7 2 2 3 1000 _) rfl rfl ?_
  conv => whnf
  refine Tr.pure (check_tr 0 0 0 0 0 0 0 0 _) rfl rfl ?_
  conv => whnf
  refine Tr.pure (size17 3 5 3 10 2 2 3 1000 _) rfl rfl ?_
  conv => whnf
  refine Tr.pure (chunks18 3 5 3 10 2 2 3 1000 _) rfl rfl ?_
  conv => whnf
  refine Tr.pure (rounds19 3 5 3 10 2 2 3 1000 _) rfl rfl ?_
  conv => whnf
  refine Tr.pure (work20 3 5 3 10 2 2 3 1000 _) rfl rfl ?_
  conv => whnf
  refine Tr.pure (foot21 3 5 3 10 2 2 3 1000 _) rfl rfl ?_
  conv => whnf
  refine eq27 (ys := [3, 920, 5, 4, 6, 3]) (footS_length ..) rfl ?_
  conv => whnf
  refine Tr.pure (foot21 3 5 3 7 2 2 3 1000 _) rfl rfl ?_
  conv => whnf
  refine eq27 (ys := [0, 0, 0, 0, 0, 0]) (footS_length ..) rfl ?_
  conv => whnf
  rfl
end Go.Proofs.Ythdkofhgdmgdcaa
