import Derived.Test.YthdkofhgdmgdcabQk
set_option linter.unusedVariables false
set_option linter.unusedSimpArgs false
namespace Go.Proofs.Ythdkofhgdmgdcab
open Go Go.Sx

theorem push_le (l : List ByteArray) (s : ByteArray) (most : Int) : (pushL l s most).length ≤ l.length + 1 := by simp [pushL]
theorem lose_le (l : List ByteArray) (i : Int) : (loseL l i).length ≤ l.length := by
  unfold loseL; split
  · exact List.length_eraseIdx_le _ _
  · omega
theorem twice_le (l : List ByteArray) (i most : Int) : (twiceL l i most).length ≤ l.length + 1 := by
  unfold twiceL; split
  · exact push_le _ _ _
  · omega
theorem moved_le (l : List ByteArray) (i k : Int) : (movedL l i k).length ≤ l.length + 1 := by
  unfold movedL; split
  · have := List.length_eraseIdx_le l i.toNat
    simp only [moveL, List.length_append, List.length_take, List.length_cons, List.length_drop]; omega
  · omega
set_option maxRecDepth 100000 in
theorem keeps6 {G : Addr → Option Value} {A : Option Addr} {c : Nat} {l : List ByteArray} {s : ByteArray} {i k most : Int} (hd : Dat G A l.length c 1 (strs l)) (hm : -9223372036854775808 ≤ most ∧ most ≤ 9223372036854775807) :
    Tr Try.prog 6 [lv A l.length c, sv s, iv i, iv k, iv most] (H0 G) fun r _ => r = .v (.bool true) := by
  refine Tr.of_body tabOk Try.func6 (by kernel_rfl) ?_
  conv => whnf
  refine Tr.pure (works_tr _) rfl rfl ?_
  conv => whnf
  refine Tr.pure (Few_tr hd) rfl rfl ?_
  by_cases hf : fewL l
  case neg =>
    rw [decide_eq_false hf]
    conv => whnf
    rfl
  rw [decide_eq_true hf]
  conv => whnf
  by_cases hs : 500 < s.size
  · rw [decide_eq_true (show (500 : Int) < s.size by omega)]
    conv => whnf
    rfl
  rw [decide_eq_false (show ¬ (500 : Int) < s.size by omega)]
  conv => whnf
  have h40 := hf.1
  have hl : l.length ≤ 900 := by omega
  have b1 := push_le l s most
  have b2 := lose_le l i
  have b3 := twice_le l i most
  have b4 := moved_le l i k
  refine BltQ.app_new tabOk rfl (srcOf_dat hd) rfl (strs_one l) (by simp only [maxLen]; omega) (by omega) fun A0 c0 hA0 => ?_
  conv => whnf
  refine Tr.weakH (Weak.at (size := 1) 0 rfl rfl hA0 (by simp) fun g0 m0 d0 => ?_)
  replace hd := hd.mono m0
  refine Tr.frame (Push_tr hd hl hm) rfl ?_
  rintro r H' ⟨A1, c1, g1, m1, d1, rfl, rfl⟩
  refine ⟨rfl, fun _ => ?_⟩
  replace hd := hd.mono m1
  replace d0 := d0.mono m1
  conv => whnf
  refine Tr.frame (take_i hd hl i) rfl ?_
  rintro r H' ⟨s1, rfl, A3, c3, g3, m3, d3, rfl, rfl⟩
  refine ⟨rfl, fun _ => ?_⟩
  replace hd := hd.mono m3
  replace d0 := d0.mono m3
  conv => whnf
  refine Tr.frame (lose_i hd hl i) rfl ?_
  rintro r H' ⟨s3, rfl, A5, c5, g5, m5, d5, rfl, rfl⟩
  refine ⟨rfl, fun _ => ?_⟩
  replace hd := hd.mono m5
  replace d0 := d0.mono m5
  conv => whnf
  refine Tr.frame (twice_i hd hl i hm) rfl ?_
  rintro r H' ⟨s5, rfl, A7, c7, g7, m7, d7, rfl, rfl⟩
  refine ⟨rfl, fun _ => ?_⟩
  replace hd := hd.mono m7
  replace d0 := d0.mono m7
  conv => whnf
  refine Tr.frame (move_i hd hl i k) rfl ?_
  rintro r H' ⟨s7, rfl, A9, c9, g9, m9, d9, rfl, rfl⟩
  refine ⟨rfl, fun _ => ?_⟩
  replace hd := hd.mono m9
  replace d0 := d0.mono m9
  conv => whnf
  refine Tr.pure (Texts_tr hd d0 hl) rfl rfl ?_
  rw [decide_eq_true rfl]
  conv => whnf
  have hfin : decide ((0 : Int) ≤ IntKind.wrap .i64 (IntKind.wrap .i64 (IntKind.wrap .i64 (IntKind.wrap .i64 (((pushL l s most).length : Int) + ((loseL l i).length : Int)) + ((loseL l i).length : Int)) + ((twiceL l i most).length : Int)) + ((movedL l i k).length : Int))) = true := by
    apply decide_eq_true
    rw [wrap_i64 (n := ((pushL l s most).length : Int) + ((loseL l i).length : Int)) (by omega) (by omega), wrap_i64 (n := ((pushL l s most).length : Int) + ((loseL l i).length : Int) + ((loseL l i).length : Int)) (by omega) (by omega),
      wrap_i64 (n := ((pushL l s most).length : Int) + ((loseL l i).length : Int) + ((loseL l i).length : Int) + ((twiceL l i most).length : Int)) (by omega) (by omega), wrap_i64 (by omega) (by omega)]
    omega
  show SV.v (.bool (decide ((0 : Int) ≤ _))) = _
  exact congrArg (fun b => SV.v (.bool b)) hfin
end Go.Proofs.Ythdkofhgdmgdcab
