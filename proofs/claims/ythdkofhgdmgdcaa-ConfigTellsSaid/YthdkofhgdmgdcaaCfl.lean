import Derived.Test.YthdkofhgdmgdcaaCfr
set_option linter.unusedVariables false
set_option linter.unusedSimpArgs false
namespace Go.Proofs.Ythdkofhgdmgdcaa
open Go Go.Sx
abbrev tv : SV := .v (.bool true)
theorem six (l : List Int) (h : l.length = 6) : ∃ x0 x1 x2 x3 x4 x5, l = [x0, x1, x2, x3, x4, x5] := by
  match l, h with
  | [x0, x1, x2, x3, x4, x5], _ => exact ⟨_, _, _, _, _, _, rfl⟩
theorem foot21' {a b c d e f g h x0 x1 x2 x3 x4 x5 : Int} (hF : footS a b c d e f g h = [x0, x1, x2, x3, x4, x5]) (G : Addr → Option Value) : Tr Try.prog 21 [cfg a b c d e f g h] (H0 G) fun r _ => r = .agg [iv x0, iv x1, iv x2, iv x3, iv x4, iv x5] := by
  have h := foot21 a b c d e f g h G
  rw [hF] at h
  exact h
theorem rfoot15' {a b c d e f g h x0 x1 x2 x3 x4 x5 : Int} (hF : footS a b c d e f g h = [x0, x1, x2, x3, x4, x5]) (G : Addr → Option Value) : Tr Try.prog 15 [cfg a b c d e f g h] (H0 G) fun r _ => r = .agg [iv x0, iv x1, iv x2, iv x3, iv x4, iv x5] := by
  have h := rfoot15 a b c d e f g h G
  rw [hF] at h
  exact h
set_option maxRecDepth 100000 in
theorem tells3 (a b c d e f g h : Int) (G : Addr → Option Value) : Tr Try.prog 3 [cfg a b c d e f g h] (H0 G) fun r _ => r = tv := by
  obtain ⟨x0, x1, x2, x3, x4, x5, hF⟩ := six _ (footS_length a b c d e f g h)
  refine Tr.of_body tabOk Try.func3 (by kernel_rfl) ?_
  conv => whnf
  refine Tr.pure (works9 _) rfl rfl ?_
  conv => whnf
  refine Tr.pure (rcheck10 ..) rfl rfl ?_
  conv => whnf
  refine Tr.pure (rsize11 ..) rfl rfl ?_
  conv => whnf
  refine Tr.pure (rchunks12 ..) rfl rfl ?_
  conv => whnf
  refine Tr.pure (rrounds13 ..) rfl rfl ?_
  conv => whnf
  refine Tr.pure (rwork14 ..) rfl rfl ?_
  conv => whnf
  refine Tr.pure (rfoot15' hF _) rfl rfl ?_
  conv => whnf
  refine Sx.par tabOk mixed (by kernel_rfl) ?_
  conv => whnf
  refine CallQ.mk (check_tr ..) rfl rfl ?_
  conv => whnf
  have ee : ∀ x : Int, decide (x = x) = true := fun x => decide_eq_true rfl
  by_cases hc : cok a b c d e f g h = true
  all_goals
    simp only [hc]
    conv => whnf
    refine CallQ.mk (size17 ..) rfl rfl ?_
    conv => whnf
    rw [ee]
    conv => whnf
    refine CallQ.mk (chunks18 ..) rfl rfl ?_
    conv => whnf
    rw [ee]
    conv => whnf
    refine CallQ.mk (rounds19 ..) rfl rfl ?_
    conv => whnf
    rw [ee]
    conv => whnf
    refine CallQ.mk (work20 ..) rfl rfl ?_
    conv => whnf
    rw [ee]
    conv => whnf
    refine CallQ.mk (foot21' hF _) rfl rfl ?_
    conv => whnf
    refine eq27 (xs := [x0, x1, x2, x3, x4, x5]) (ys := [x0, x1, x2, x3, x4, x5]) rfl rfl ?_
    rw [decide_eq_true rfl]
    conv => whnf
    rfl

theorem sizeS_ok {a b c d e f g h : Int} (hc : cok a b c d e f g h = true) : sizeS a b c d e f g h = 92 * d := by rw [sizeS, if_pos hc]
theorem workS_ok {a b c d e f g h : Int} (hc : cok a b c d e f g h = true) : workS a b c d e f g h = 9 * (b + 5) + 2 * d := by rw [workS, if_pos hc]
theorem roundsS_ok {a b c d e f g h : Int} (hc : cok a b c d e f g h = true) : roundsS a b c d e f g h = a * (chunksS a b c d e f g h + 1) := by rw [roundsS, if_pos hc]
theorem chunksS_lo {a b c d e f g h : Int} (hc : cok a b c d e f g h = true) : b ≤ chunksS a b c d e f g h * e ∧ (chunksS a b c d e f g h - 1) * e < b ∧ chunksS a b c d e f g h * e ≤ 100 ∧ 0 ≤ (chunksS a b c d e f g h - 1) * e := by
  have := cok_get hc
  rw [chunksS, if_pos hc]
  have h1 : e = 1 ∨ e = 2 ∨ e = 3 ∨ e = 4 := by omega
  rcases h1 with rfl | rfl | rfl | rfl <;> omega
theorem none_no {a b c d e f g h : Int} (hc : ¬ cok a b c d e f g h = true) : sizeS a b c d e f g h = 0 ∧ chunksS a b c d e f g h = 0 ∧ roundsS a b c d e f g h = 0 ∧ workS a b c d e f g h = 0 := ⟨if_neg hc, if_neg hc, if_neg hc, if_neg hc⟩
set_option maxRecDepth 100000 in
theorem work7 (a b c d e f g h : Int) (G : Addr → Option Value) : Tr Try.prog 7 [cfg a b c d e f g h] (H0 G) fun r _ => r = tv := by
  refine Tr.of_body tabOk Try.func7 (by kernel_rfl) ?_
  conv => whnf
  refine Tr.pure (works9 _) rfl rfl ?_
  conv => whnf
  refine Tr.pure (check_tr ..) rfl rfl ?_
  by_cases hc : cok a b c d e f g h = true
  · simp only [hc, if_true]
    conv => whnf
    have := cok_get hc
    refine Sx.par tabOk mixed (by kernel_rfl) ?_
    conv => whnf
    refine CallQ.mk (work20 ..) rfl rfl ?_
    rw [workS_ok hc]
    conv => whnf
    rw [decide_eq_true]
    · conv => whnf
      refine CallQ.mk (work20 ..) rfl rfl ?_
      rw [workS_ok hc]
      conv => whnf
      rw [decide_eq_true]
      · conv => whnf
        rfl
      · first | omega | (simp (disch := omega) only [wrap_i64]; omega) | (simp (disch := omega) only [wrap_i64]; done)
    · first | omega | (simp (disch := omega) only [wrap_i64]; omega) | (simp (disch := omega) only [wrap_i64]; done)
  · simp only [hc]
    conv => whnf
    refine Tr.pure (work20 ..) rfl rfl ?_
    rw [workS, if_neg hc]
    conv => whnf
    rfl
set_option maxRecDepth 100000 in
theorem fits4 (a b c d e f g h : Int) (G : Addr → Option Value) : Tr Try.prog 4 [cfg a b c d e f g h] (H0 G) fun r _ => r = tv := by
  refine Tr.of_body tabOk Try.func4 (by kernel_rfl) ?_
  conv => whnf
  refine Tr.pure (works9 _) rfl rfl ?_
  conv => whnf
  refine Tr.pure (check_tr ..) rfl rfl ?_
  by_cases hc : cok a b c d e f g h = true
  · simp only [hc, if_true]
    conv => whnf
    have := cok_get hc
    refine Tr.pure (size_tr _) rfl rfl ?_
    conv => whnf
    have hch := chunksS_lo hc
    have hcb := chunksS_bd hc
    refine Sx.par tabOk mixed (by kernel_rfl) ?_
    conv => whnf
    refine CallQ.mk (size17 ..) rfl rfl ?_
    rw [sizeS_ok hc]
    conv => whnf
    rw [decide_eq_true]
    · conv => whnf
      refine CallQ.mk (size17 ..) rfl rfl ?_
      rw [sizeS_ok hc]
      conv => whnf
      rw [decide_eq_true]
      · conv => whnf
        refine CallQ.mk (size17 ..) rfl rfl ?_
        rw [sizeS_ok hc]
        conv => whnf
        rw [decide_eq_true]
        · conv => whnf
          refine CallQ.mk (chunks18 ..) rfl rfl ?_
          conv => whnf
          rw [decide_eq_true]
          · conv => whnf
            refine CallQ.mk (chunks18 ..) rfl rfl ?_
            conv => whnf
            rw [decide_eq_true]
            · conv => whnf
              rfl
            · first | omega | (simp (disch := omega) only [wrap_i64]; omega) | (simp (disch := omega) only [wrap_i64]; done)
          · first | omega | (simp (disch := omega) only [wrap_i64]; omega) | (simp (disch := omega) only [wrap_i64]; done)
        · first | omega | (simp (disch := omega) only [wrap_i64]; omega) | (simp (disch := omega) only [wrap_i64]; done)
      · rw [Int.mul_comm]; exact Int.mul_tmod_left ..
    · first | omega | (simp (disch := omega) only [wrap_i64]; omega) | (simp (disch := omega) only [wrap_i64]; done)
  · simp only [hc]
    conv => whnf
    obtain ⟨z1, z2, z3, z4⟩ := none_no hc
    refine Sx.par tabOk mixed (by kernel_rfl) ?_
    conv => whnf
    refine CallQ.mk (size17 ..) rfl rfl ?_
    conv => whnf
    refine CallQ.mk (chunks18 ..) rfl rfl ?_
    conv => whnf
    refine CallQ.mk (rounds19 ..) rfl rfl ?_
    conv => whnf
    refine CallQ.mk (work20 ..) rfl rfl ?_
    rw [z1, z2, z3, z4]
    conv => whnf
    rfl

theorem more_d {a b c d e f g h : Int} (hc : cok a b c d e f g h = true) (hd : cok a b c d (e + 1) f g h = true) : roundsS a b c d (e + 1) f g h ≤ roundsS a b c d e f g h := by
  have h1 := cok_get hc
  have h2 := cok_get hd
  rw [roundsS_ok hc, roundsS_ok hd]
  have h3 : chunksS a b c d (e + 1) f g h ≤ chunksS a b c d e f g h := by
    rw [chunksS, chunksS, if_pos hc, if_pos hd]
    have he : e = 1 ∨ e = 2 ∨ e = 3 := by omega
    rcases he with rfl | rfl | rfl <;> omega
  exact Int.mul_le_mul_of_nonneg_left (by omega) (by omega)
theorem more_e {a b c d e f g h : Int} (hc : cok a b c d e f g h = true) (hd : cok (a + 1) b c d e f g h = true) : roundsS a b c d e f g h < roundsS (a + 1) b c d e f g h := by
  rw [roundsS_ok hc, roundsS_ok hd]
  have h3 : chunksS (a + 1) b c d e f g h = chunksS a b c d e f g h := by rw [chunksS, chunksS, if_pos hc, if_pos hd]
  have h4 := chunksS_bd hc
  rw [h3, Int.add_mul]
  omega
theorem more_f {a b c d e f g h : Int} (hc : cok a b c d e f g h = true) (hd : cok a (b + 1) c d e f g h = true) : roundsS a b c d e f g h ≤ roundsS a (b + 1) c d e f g h ∧ workS a b c d e f g h ≤ workS a (b + 1) c d e f g h := by
  have h1 := cok_get hc
  have h2 := cok_get hd
  rw [roundsS_ok hc, roundsS_ok hd, workS_ok hc, workS_ok hd]
  have h3 : chunksS a b c d e f g h ≤ chunksS a (b + 1) c d e f g h := by
    rw [chunksS, chunksS, if_pos hc, if_pos hd]
    have he : e = 1 ∨ e = 2 ∨ e = 3 ∨ e = 4 := by omega
    rcases he with rfl | rfl | rfl | rfl <;> omega
  exact ⟨Int.mul_le_mul_of_nonneg_left (by omega) (by omega), by omega⟩
set_option maxRecDepth 100000 in
theorem more5 (a b c d e f g h : Int) (G : Addr → Option Value) : Tr Try.prog 5 [cfg a b c d e f g h] (H0 G) fun r _ => r = tv := by
  refine Tr.of_body tabOk Try.func5 (by kernel_rfl) ?_
  conv => whnf
  refine Tr.pure (works9 _) rfl rfl ?_
  conv => whnf
  refine Tr.pure (check_tr ..) rfl rfl ?_
  by_cases hc : cok a b c d e f g h = true
  · simp only [hc, if_true]
    conv => whnf
    have := cok_get hc
    have w1 := wrap_i64 (n := e + 1) (by omega) (by omega)
    have w2 := wrap_i64 (n := a + 1) (by omega) (by omega)
    have w3 := wrap_i64 (n := b + 1) (by omega) (by omega)
    rw [w1, w2, w3]
    refine Sx.par tabOk mixed (by kernel_rfl) ?_
    conv => whnf
    refine CallQ.mk (check_tr ..) rfl rfl ?_
    by_cases h1 : cok a b c d (e + 1) f g h = true
    · simp only [h1, if_true]
      conv => whnf
      refine CallQ.mk (rounds19 ..) rfl rfl ?_
      conv => whnf
      refine CallQ.mk (rounds19 ..) rfl rfl ?_
      conv => whnf
      rw [decide_eq_true (more_d hc h1)]
      conv => whnf
      refine CallQ.mk (check_tr ..) rfl rfl ?_
      by_cases h2 : cok (a + 1) b c d e f g h = true
      · simp only [h2, if_true]
        conv => whnf
        refine CallQ.mk (rounds19 ..) rfl rfl ?_
        conv => whnf
        refine CallQ.mk (rounds19 ..) rfl rfl ?_
        conv => whnf
        rw [decide_eq_true (more_e hc h2)]
        conv => whnf
        refine CallQ.mk (check_tr ..) rfl rfl ?_
        by_cases h3 : cok a (b + 1) c d e f g h = true
        · simp only [h3, if_true]
          conv => whnf
          refine CallQ.mk (rounds19 ..) rfl rfl ?_
          conv => whnf
          refine CallQ.mk (rounds19 ..) rfl rfl ?_
          conv => whnf
          rw [decide_eq_true (more_f hc h3).1]
          conv => whnf
          refine CallQ.mk (work20 ..) rfl rfl ?_
          conv => whnf
          refine CallQ.mk (work20 ..) rfl rfl ?_
          conv => whnf
          rw [decide_eq_true (more_f hc h3).2]
          conv => whnf
          rfl
        · simp only [h3]
          conv => whnf
          rfl

      · simp only [h2]
        conv => whnf
        refine CallQ.mk (check_tr ..) rfl rfl ?_
        by_cases h3 : cok a (b + 1) c d e f g h = true
        · simp only [h3, if_true]
          conv => whnf
          refine CallQ.mk (rounds19 ..) rfl rfl ?_
          conv => whnf
          refine CallQ.mk (rounds19 ..) rfl rfl ?_
          conv => whnf
          rw [decide_eq_true (more_f hc h3).1]
          conv => whnf
          refine CallQ.mk (work20 ..) rfl rfl ?_
          conv => whnf
          refine CallQ.mk (work20 ..) rfl rfl ?_
          conv => whnf
          rw [decide_eq_true (more_f hc h3).2]
          conv => whnf
          rfl
        · simp only [h3]
          conv => whnf
          rfl

    · simp only [h1]
      conv => whnf
      refine CallQ.mk (check_tr ..) rfl rfl ?_
      by_cases h2 : cok (a + 1) b c d e f g h = true
      · simp only [h2, if_true]
        conv => whnf
        refine CallQ.mk (rounds19 ..) rfl rfl ?_
        conv => whnf
        refine CallQ.mk (rounds19 ..) rfl rfl ?_
        conv => whnf
        rw [decide_eq_true (more_e hc h2)]
        conv => whnf
        refine CallQ.mk (check_tr ..) rfl rfl ?_
        by_cases h3 : cok a (b + 1) c d e f g h = true
        · simp only [h3, if_true]
          conv => whnf
          refine CallQ.mk (rounds19 ..) rfl rfl ?_
          conv => whnf
          refine CallQ.mk (rounds19 ..) rfl rfl ?_
          conv => whnf
          rw [decide_eq_true (more_f hc h3).1]
          conv => whnf
          refine CallQ.mk (work20 ..) rfl rfl ?_
          conv => whnf
          refine CallQ.mk (work20 ..) rfl rfl ?_
          conv => whnf
          rw [decide_eq_true (more_f hc h3).2]
          conv => whnf
          rfl
        · simp only [h3]
          conv => whnf
          rfl

      · simp only [h2]
        conv => whnf
        refine CallQ.mk (check_tr ..) rfl rfl ?_
        by_cases h3 : cok a (b + 1) c d e f g h = true
        · simp only [h3, if_true]
          conv => whnf
          refine CallQ.mk (rounds19 ..) rfl rfl ?_
          conv => whnf
          refine CallQ.mk (rounds19 ..) rfl rfl ?_
          conv => whnf
          rw [decide_eq_true (more_f hc h3).1]
          conv => whnf
          refine CallQ.mk (work20 ..) rfl rfl ?_
          conv => whnf
          refine CallQ.mk (work20 ..) rfl rfl ?_
          conv => whnf
          rw [decide_eq_true (more_f hc h3).2]
          conv => whnf
          rfl
        · simp only [h3]
          conv => whnf
          rfl

  · simp only [hc]
    conv => whnf
    rfl

set_option maxRecDepth 100000 in
theorem foot8 (a b c d e f g h : Int) (G : Addr → Option Value) : Tr Try.prog 8 [cfg a b c d e f g h] (H0 G) fun r _ => r = tv := by
  refine Tr.of_body tabOk Try.func8 (by kernel_rfl) ?_
  conv => whnf
  refine Tr.pure (works9 _) rfl rfl ?_
  conv => whnf
  by_cases hc : cok a b c d e f g h = true
  · have hF : footS a b c d e f g h = [c, 92 * d, b, 2 * f, 2 * a, g] := if_pos hc
    have := cok_get hc
    refine Tr.pure (foot21' hF _) rfl rfl ?_
    conv => whnf
    refine Tr.pure (check_tr ..) rfl rfl ?_
    simp only [hc, if_true]
    conv => whnf
    have hm : 0 ≤ c * (92 * d) := Int.mul_nonneg (by omega) (by omega)
    have hm2 : c * (92 * d) ≤ 6 * (92 * 24) := Int.mul_le_mul (by omega) (by omega) (by omega) (by omega)
    refine Sx.par tabOk mixed (by kernel_rfl) ?_
    conv => whnf
    rw [decide_eq_true]
    · conv => whnf
      refine CallQ.mk (size17 ..) rfl rfl ?_
      rw [sizeS_ok hc]
      conv => whnf
      rw [decide_eq_true]
      · conv => whnf
        rw [decide_eq_true]
        · conv => whnf
          rw [decide_eq_true]
          · conv => whnf
            rw [decide_eq_true]
            · conv => whnf
              rw [decide_eq_true]
              · conv => whnf
                rw [decide_eq_true]
                · conv => whnf
                  rw [decide_eq_true]
                  · conv => whnf
                    rw [decide_eq_true]
                    · conv => whnf
                      rw [decide_eq_true]
                      · conv => whnf
                        rfl
                      · first | omega | (simp (disch := omega) only [wrap_i64]; omega) | (simp (disch := omega) only [wrap_i64]; done)
                    · first | omega | (simp (disch := omega) only [wrap_i64]; omega) | (simp (disch := omega) only [wrap_i64]; done)
                  · first | omega | (simp (disch := omega) only [wrap_i64]; omega) | (simp (disch := omega) only [wrap_i64]; done)
                · first | omega | (simp (disch := omega) only [wrap_i64]; omega) | (simp (disch := omega) only [wrap_i64]; done)
              · first | omega | (simp (disch := omega) only [wrap_i64]; omega) | (simp (disch := omega) only [wrap_i64]; done)
            · first | omega | (simp (disch := omega) only [wrap_i64]; omega) | (simp (disch := omega) only [wrap_i64]; done)
          · first | omega | (simp (disch := omega) only [wrap_i64]; omega) | (simp (disch := omega) only [wrap_i64]; done)
        · first | omega | (simp (disch := omega) only [wrap_i64]; omega) | (simp (disch := omega) only [wrap_i64]; done)
      · first | omega | (simp (disch := omega) only [wrap_i64]; omega) | (simp (disch := omega) only [wrap_i64]; done)
    · first | omega | (simp (disch := omega) only [wrap_i64]; omega) | (simp (disch := omega) only [wrap_i64]; done)
  · have hF : footS a b c d e f g h = [0, 0, 0, 0, 0, 0] := if_neg hc
    refine Tr.pure (foot21' hF _) rfl rfl ?_
    conv => whnf
    refine Tr.pure (check_tr ..) rfl rfl ?_
    simp only [hc]
    conv => whnf
    refine eq27 (xs := [0, 0, 0, 0, 0, 0]) (ys := [0, 0, 0, 0, 0, 0]) rfl rfl ?_
    conv => whnf
    rfl
end Go.Proofs.Ythdkofhgdmgdcaa
