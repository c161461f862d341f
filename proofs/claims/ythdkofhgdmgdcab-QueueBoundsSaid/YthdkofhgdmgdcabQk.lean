import Derived.Test.YthdkofhgdmgdcabQj
set_option linter.unusedVariables false
set_option linter.unusedSimpArgs false
namespace Go.Proofs.Ythdkofhgdmgdcab
open Go Go.Sx

set_option maxRecDepth 100000 in
theorem tells3 {G : Addr → Option Value} {A : Option Addr} {c : Nat} {l : List ByteArray} {s : ByteArray} {i k most : Int} (hd : Dat G A l.length c 1 (strs l)) (hm : -9223372036854775808 ≤ most ∧ most ≤ 9223372036854775807) :
    Tr Try.prog 3 [lv A l.length c, sv s, iv i, iv k, iv most] (H0 G) fun r _ => r = .v (.bool true) := by
  refine Tr.of_body tabOk Try.func3 (by kernel_rfl) ?_
  conv => whnf
  refine Tr.pure (works_tr _) rfl rfl ?_
  conv => whnf
  refine Tr.pure (Few_tr hd) rfl rfl ?_
  by_cases hf : fewL l
  case neg =>
    rw [decide_eq_false hf]
    conv => whnf
    rfl
  rw [decide_eq_true hf]
  conv => whnf
  by_cases hs : 500 < s.size
  · rw [decide_eq_true (show (500 : Int) < s.size by omega)]
    conv => whnf
    rfl
  rw [decide_eq_false (show ¬ (500 : Int) < s.size by omega)]
  conv => whnf
  have hl : l.length ≤ 900 := by have := hf.1; omega
  have hp : (pushL l s most).length ≤ 900 := by have := hf.1; simp [pushL]; omega
  have hlo : (loseL l i).length ≤ 900 := by unfold loseL; split; · rw [List.length_eraseIdx]; split <;> omega
                                            · omega
  have htw : (twiceL l i most).length ≤ 900 := by unfold twiceL; split; · have := hf.1; simp [pushL]; omega
                                                  · omega
  have hmv : (movedL l i k).length ≤ 900 := by
    unfold movedL; split
    · have := hf.1
      have h3 : (l.eraseIdx i.toNat).length ≤ 40 := Nat.le_trans (List.length_eraseIdx_le _ _) hf.1
      simp only [moveL, List.length_append, List.length_take, List.length_cons, List.length_drop]; omega
    · omega
  refine Tr.frame (Push_tr hd hl hm) rfl ?_
  rintro r H' ⟨A1, c1, g1, m1, d1, rfl, rfl⟩
  refine ⟨rfl, fun _ => ?_⟩
  replace hd := hd.mono m1
  conv => whnf
  refine Tr.frame (rPush_tr hd hl hm) rfl ?_
  rintro r H' ⟨A2, c2, g2, m2, d2, rfl, rfl⟩
  refine ⟨rfl, fun _ => ?_⟩
  replace hd := hd.mono m2
  replace d1 := d1.mono m2
  conv => whnf
  refine Tr.pure (Texts_tr d1 d2 hp) rfl rfl ?_
  rw [decide_eq_true rfl]
  conv => whnf
  refine Tr.frame (take_i hd hl i) rfl ?_
  rintro r H' ⟨s1, rfl, A3, c3, g3, m3, d3, rfl, rfl⟩
  refine ⟨rfl, fun _ => ?_⟩
  replace hd := hd.mono m3
  conv => whnf
  refine Tr.frame (take_r hd hl i) rfl ?_
  rintro r H' ⟨s2, rfl, A4, c4, g4, m4, d4, rfl, rfl⟩
  refine ⟨rfl, fun _ => ?_⟩
  replace hd := hd.mono m4
  replace d3 := d3.mono m4
  conv => whnf
  refine Tr.frame (lose_i hd hl i) rfl ?_
  rintro r H' ⟨s3, rfl, A5, c5, g5, m5, d5, rfl, rfl⟩
  refine ⟨rfl, fun _ => ?_⟩
  replace hd := hd.mono m5
  replace d3 := d3.mono m5
  replace d4 := d4.mono m5
  conv => whnf
  refine Tr.frame (lose_r hd hl i) rfl ?_
  rintro r H' ⟨s4, rfl, A6, c6, g6, m6, d6, rfl, rfl⟩
  refine ⟨rfl, fun _ => ?_⟩
  replace hd := hd.mono m6
  replace d3 := d3.mono m6
  replace d4 := d4.mono m6
  replace d5 := d5.mono m6
  conv => whnf
  refine Tr.frame (twice_i hd hl i hm) rfl ?_
  rintro r H' ⟨s5, rfl, A7, c7, g7, m7, d7, rfl, rfl⟩
  refine ⟨rfl, fun _ => ?_⟩
  replace hd := hd.mono m7
  replace d3 := d3.mono m7
  replace d4 := d4.mono m7
  replace d5 := d5.mono m7
  replace d6 := d6.mono m7
  conv => whnf
  refine Tr.frame (twice_r hd hl i hm) rfl ?_
  rintro r H' ⟨s6, rfl, A8, c8, g8, m8, d8, rfl, rfl⟩
  refine ⟨rfl, fun _ => ?_⟩
  replace hd := hd.mono m8
  replace d3 := d3.mono m8
  replace d4 := d4.mono m8
  replace d5 := d5.mono m8
  replace d6 := d6.mono m8
  replace d7 := d7.mono m8
  conv => whnf
  refine Tr.frame (move_i hd hl i k) rfl ?_
  rintro r H' ⟨s7, rfl, A9, c9, g9, m9, d9, rfl, rfl⟩
  refine ⟨rfl, fun _ => ?_⟩
  replace hd := hd.mono m9
  replace d3 := d3.mono m9
  replace d4 := d4.mono m9
  replace d5 := d5.mono m9
  replace d6 := d6.mono m9
  replace d7 := d7.mono m9
  replace d8 := d8.mono m9
  conv => whnf
  refine Tr.frame (move_r hd hl i k) rfl ?_
  rintro r H' ⟨s8, rfl, A10, c10, g10, m10, d10, rfl, rfl⟩
  refine ⟨rfl, fun _ => ?_⟩
  replace d3 := d3.mono m10
  replace d4 := d4.mono m10
  replace d5 := d5.mono m10
  replace d6 := d6.mono m10
  replace d7 := d7.mono m10
  replace d8 := d8.mono m10
  replace d9 := d9.mono m10
  conv => whnf
  refine Tr.pure (Texts_tr d3 d4 hlo) rfl rfl ?_
  rw [decide_eq_true rfl]
  conv => whnf
  refine Tr.pure (Texts_tr d5 d6 hlo) rfl rfl ?_
  rw [decide_eq_true rfl]
  conv => whnf
  refine Tr.pure (Texts_tr d7 d8 htw) rfl rfl ?_
  rw [decide_eq_true rfl]
  conv => whnf
  refine Tr.pure (Texts_tr d9 d10 hmv) rfl rfl ?_
  rw [decide_eq_true rfl]
  conv => whnf
  rw [decide_eq_true rfl]
  conv => whnf
  rw [decide_eq_true rfl]
  conv => whnf
  rw [decide_eq_true rfl]
  conv => whnf
  rw [decide_eq_true rfl]
  conv => whnf
  show SV.v (.bool (decide (errI (inr l i ∧ inr l k) = errI (inr l i ∧ inr l k)))) = _
  rw [decide_eq_true rfl]
end Go.Proofs.Ythdkofhgdmgdcab
