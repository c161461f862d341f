import Derived.Test.YthdkofhgdmgdcabQi
set_option linter.unusedVariables false
set_option linter.unusedSimpArgs false
namespace Go.Proofs.Ythdkofhgdmgdcab
open Go Go.Sx

abbrev tx (n : UInt8) : ByteArray := ⟨#[n]⟩
set_option maxRecDepth 100000 in
theorem works_tr (G : Addr → Option Value) : Tr Try.prog 9 [] (H0 G) fun r _ => r = .v (.bool true) := by
  refine Tr.of_body tabOk Try.func9 (by kernel_rfl) ?_
  conv => whnf
  refine BldQ.dat (xs := strs [tx 120, tx 121]) rfl (by decide) fun A1 g1 m1 _ v1 d1 => ?_
  replace d1 := d1 rfl
  conv => whnf
  refine Tr.frame (Push_tr (l := [tx 120, tx 121]) (s := tx 122) (most := 2) d1 (by decide) (by omega)) rfl ?_
  rintro r H' ⟨A2, c2, g2, m2, d2, rfl, rfl⟩
  refine ⟨rfl, fun _ => ?_⟩
  have e2 : pushL [tx 120, tx 121] (tx 122) 2 = [tx 121, tx 122] := by decide
  rw [e2] at d2 ⊢
  conv => whnf
  refine Tr.frame (take_i (l := [tx 121, tx 122]) d2 (by decide) 1) rfl ?_
  rintro r H' ⟨s, rfl, A3, c3, g3, m3, d3, rfl, rfl⟩
  refine ⟨rfl, fun _ => ?_⟩
  have e3 : loseL [tx 121, tx 122] 1 = [tx 121] := by decide
  have e3' : takeS [tx 121, tx 122] 1 = tx 122 := by decide
  have e3'' : errI (inr [tx 121, tx 122] 1) = 0 := by decide
  rw [e3] at d3 ⊢
  rw [e3', e3'']
  replace d2 := d2.mono m3
  conv => whnf
  refine Tr.frame (twice_i (l := [tx 121, tx 122]) d2 (by decide) 0 (most := 3) (by omega)) rfl ?_
  rintro r H' ⟨s, rfl, A4, c4, g4, m4, d4, rfl, rfl⟩
  refine ⟨rfl, fun _ => ?_⟩
  have e4 : twiceL [tx 121, tx 122] 0 3 = [tx 121, tx 122, tx 121] := by decide
  have e4' : errI (inr [tx 121, tx 122] 0) = 0 := by decide
  rw [e4] at d4 ⊢
  rw [e4']
  replace d2 := d2.mono m4
  replace d3 := d3.mono m4
  conv => whnf
  refine BldQ.dat (xs := strs [tx 97, tx 98, tx 99]) rfl (by decide) fun A5 g5 m5 _ v5 d5 => ?_
  replace d5 := d5 rfl
  replace d2 := d2.mono m5
  replace d3 := d3.mono m5
  replace d4 := d4.mono m5
  conv => whnf
  refine Tr.frame (move_i (l := [tx 97, tx 98, tx 99]) d5 (by decide) 0 2) rfl ?_
  rintro r H' ⟨s, rfl, A6, c6, g6, m6, d6, rfl, rfl⟩
  refine ⟨rfl, fun _ => ?_⟩
  have e6 : movedL [tx 97, tx 98, tx 99] 0 2 = [tx 98, tx 99, tx 97] := by decide
  have e6' : errI (inr [tx 97, tx 98, tx 99] 0 ∧ inr [tx 97, tx 98, tx 99] 2) = 0 := by decide
  rw [e6] at d6 ⊢
  rw [e6']
  replace d2 := d2.mono m6
  replace d3 := d3.mono m6
  replace d4 := d4.mono m6
  conv => whnf
  refine Tr.frame (lose_i (l := [tx 121, tx 122]) d2 (by decide) 0) rfl ?_
  rintro r H' ⟨s, rfl, A7, c7, g7, m7, d7, rfl, rfl⟩
  refine ⟨rfl, fun _ => ?_⟩
  have e7 : loseL [tx 121, tx 122] 0 = [tx 122] := by decide
  rw [e7] at d7 ⊢
  rw [e4']
  replace d2 := d2.mono m7
  replace d3 := d3.mono m7
  replace d4 := d4.mono m7
  replace d6 := d6.mono m7
  conv => whnf
  refine Tr.frame (lose_i (l := [tx 121, tx 122]) d2 (by decide) 2) rfl ?_
  rintro r H' ⟨s, rfl, A8, c8, g8, m8, d8, rfl, rfl⟩
  refine ⟨rfl, fun _ => ?_⟩
  have e8 : errI (inr [tx 121, tx 122] 2) = 9 := by decide
  rw [e8]
  replace d2 := d2.mono m8
  replace d3 := d3.mono m8
  replace d4 := d4.mono m8
  replace d6 := d6.mono m8
  replace d7 := d7.mono m8
  conv => whnf
  refine BldQ.dat (xs := strs [tx 121, tx 122]) rfl (by decide) fun A9 g9 m9 _ v9 d9 => ?_
  replace d9 := d9 rfl
  replace d2 := d2.mono m9
  replace d3 := d3.mono m9
  replace d4 := d4.mono m9
  replace d6 := d6.mono m9
  replace d7 := d7.mono m9
  conv => whnf
  refine Tr.pure (Texts_tr (l := [tx 121, tx 122]) (m := [tx 121, tx 122]) d2 d9 (by decide)) rfl rfl ?_
  rw [decide_eq_true rfl]
  conv => whnf
  refine BldQ.dat (xs := strs [tx 121]) rfl (by decide) fun A10 g10 m10 _ v10 d10 => ?_
  replace d10 := d10 rfl
  replace d3 := d3.mono m10
  replace d4 := d4.mono m10
  replace d6 := d6.mono m10
  replace d7 := d7.mono m10
  conv => whnf
  refine Tr.pure (Texts_tr (l := [tx 121]) (m := [tx 121]) d3 d10 (by decide)) rfl rfl ?_
  rw [decide_eq_true rfl]
  conv => whnf
  refine BldQ.dat (xs := strs [tx 121, tx 122, tx 121]) rfl (by decide) fun A11 g11 m11 _ v11 d11 => ?_
  replace d11 := d11 rfl
  replace d4 := d4.mono m11
  replace d6 := d6.mono m11
  replace d7 := d7.mono m11
  conv => whnf
  refine Tr.pure (Texts_tr (l := [tx 121, tx 122, tx 121]) (m := [tx 121, tx 122, tx 121]) d4 d11 (by decide)) rfl rfl ?_
  rw [decide_eq_true rfl]
  conv => whnf
  refine BldQ.dat (xs := strs [tx 98, tx 99, tx 97]) rfl (by decide) fun A12 g12 m12 _ v12 d12 => ?_
  replace d12 := d12 rfl
  replace d6 := d6.mono m12
  replace d7 := d7.mono m12
  conv => whnf
  refine Tr.pure (Texts_tr (l := [tx 98, tx 99, tx 97]) (m := [tx 98, tx 99, tx 97]) d6 d12 (by decide)) rfl rfl ?_
  rw [decide_eq_true rfl]
  conv => whnf
  refine BldQ.dat (xs := strs [tx 122]) rfl (by decide) fun A13 g13 m13 _ v13 d13 => ?_
  replace d13 := d13 rfl
  replace d7 := d7.mono m13
  conv => whnf
  refine Tr.pure (Texts_tr (l := [tx 122]) (m := [tx 122]) d7 d13 (by decide)) rfl rfl ?_
  rw [decide_eq_true rfl]
  conv => whnf
  rfl
end Go.Proofs.Ythdkofhgdmgdcab
