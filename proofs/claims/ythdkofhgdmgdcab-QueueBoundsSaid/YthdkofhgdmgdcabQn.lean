import Derived.Test.YthdkofhgdmgdcabQm
set_option linter.unusedVariables false
set_option linter.unusedSimpArgs false
namespace Go.Proofs.Ythdkofhgdmgdcab
open Go Go.Sx

theorem back_in {l : List ByteArray} {i : Nat} (hi : i < l.length) : (l.eraseIdx i).take i ++ l[i] :: (l.eraseIdx i).drop i = l := by
  have h1 : l.eraseIdx i = l.take i ++ l.drop (i + 1) := List.eraseIdx_eq_take_drop_succ ..
  have h2 : (l.take i).length = i := by simp; omega
  rw [h1, List.take_left' h2, List.drop_left' h2, ← List.drop_eq_getElem_cons hi, List.take_append_drop]
theorem moveL_len {l : List ByteArray} {i k : Nat} (hi : i < l.length) (hk : k < l.length) (s : ByteArray) : (moveL l i k s).length = l.length := by
  simp only [moveL, List.length_append, List.length_take, List.length_cons, List.length_drop, List.length_eraseIdx_of_lt hi]; omega
theorem moveL_erase {l : List ByteArray} {i k : Nat} (hi : i < l.length) (hk : k < l.length) (s : ByteArray) : (moveL l i k s).eraseIdx k = l.eraseIdx i := by
  have h2 : ((l.eraseIdx i).take k).length = k := by rw [List.length_take, List.length_eraseIdx_of_lt hi]; omega
  rw [moveL, List.eraseIdx_append_of_length_le (by omega), h2, Nat.sub_self]
  simp
theorem moveL_get {l : List ByteArray} {i k : Nat} (hi : i < l.length) (hk : k < l.length) (s : ByteArray) : (moveL l i k s).getD k ⟨#[]⟩ = s := by
  have h2 : ((l.eraseIdx i).take k).length = k := by rw [List.length_take, List.length_eraseIdx_of_lt hi]; omega
  rw [moveL, List.getD, List.getElem?_append_right (by omega), h2, Nat.sub_self]
  simp
set_option maxRecDepth 100000 in
theorem moves5 {G : Addr → Option Value} {A : Option Addr} {c : Nat} {l : List ByteArray} {i k : Int} (hd : Dat G A l.length c 1 (strs l)) :
    Tr Try.prog 5 [lv A l.length c, iv i, iv k] (H0 G) fun r _ => r = .v (.bool true) := by
  refine Tr.of_body tabOk Try.func5 (by kernel_rfl) ?_
  conv => whnf
  refine Tr.pure (works_tr _) rfl rfl ?_
  conv => whnf
  refine Tr.pure (Few_tr hd) rfl rfl ?_
  by_cases hf : fewL l
  case neg =>
    rw [decide_eq_false hf]
    conv => whnf
    rfl
  rw [decide_eq_true hf]
  conv => whnf
  have h40 := hf.1
  have hl : l.length ≤ 900 := by omega
  have b4 := moved_le l i k
  have b2 := lose_le l i
  refine Tr.frame (move_i hd hl i k) rfl ?_
  rintro r H' ⟨s1, rfl, A1, c1, g1, m1, d1, rfl, rfl⟩
  refine ⟨rfl, fun _ => ?_⟩
  replace hd := hd.mono m1
  conv => whnf
  refine Tr.frame (move_i d1 (by omega) k i) rfl ?_
  rintro r H' ⟨s2, rfl, A2, c2, g2, m2, d2, rfl, rfl⟩
  refine ⟨rfl, fun _ => ?_⟩
  replace hd := hd.mono m2
  replace d1 := d1.mono m2
  conv => whnf
  refine Tr.frame (take_i hd hl i) rfl ?_
  rintro r H' ⟨s3, rfl, A3, c3, g3, m3, d3, rfl, rfl⟩
  refine ⟨rfl, fun _ => ?_⟩
  replace hd := hd.mono m3
  replace d1 := d1.mono m3
  replace d2 := d2.mono m3
  conv => whnf
  refine Tr.frame (lose_i hd hl i) rfl ?_
  rintro r H' ⟨s4, rfl, A4, c4, g4, m4, d4, rfl, rfl⟩
  refine ⟨rfl, fun _ => ?_⟩
  replace hd := hd.mono m4
  replace d1 := d1.mono m4
  replace d2 := d2.mono m4
  replace d3 := d3.mono m4
  conv => whnf
  by_cases hik : inr l i ∧ inr l k
  · have he : errI (inr l i ∧ inr l k) = 0 := if_pos hik
    rw [decide_eq_true he]
    conv => whnf
    obtain ⟨a, rfl⟩ := Int.eq_ofNat_of_zero_le hik.1.1
    obtain ⟨b, rfl⟩ := Int.eq_ofNat_of_zero_le hik.2.1
    have ha : a < l.length := by have := hik.1.2; omega
    have hb : b < l.length := by have := hik.2.2; omega
    have e0 : l.getD (Int.toNat a) ⟨#[]⟩ = l[a] := by simp [List.getD, ha]
    have e1 : movedL l (a : Int) (b : Int) = moveL l a b l[a] := by rw [movedL, if_pos hik, e0]; rfl
    have hlen := moveL_len ha hb l[a]
    have hin1 : inr (moveL l a b l[a]) (b : Int) := ⟨by omega, by omega⟩
    have hin2 : inr (moveL l a b l[a]) (a : Int) := ⟨by omega, by omega⟩
    have e2 : movedL (movedL l (a : Int) (b : Int)) (b : Int) (a : Int) = l := by
      rw [e1, movedL, if_pos ⟨hin1, hin2⟩]
      show moveL (moveL l a b l[a]) b a ((moveL l a b l[a]).getD b ⟨#[]⟩) = l
      rw [moveL_get ha hb, moveL, moveL_erase ha hb]
      exact back_in ha
    have e3 : loseL (movedL l (a : Int) (b : Int)) (b : Int) = loseL l (a : Int) := by
      rw [e1, loseL, loseL, if_pos hin1, if_pos hik.1]
      exact moveL_erase ha hb _
    have e4 : takeS (movedL l (a : Int) (b : Int)) (b : Int) = takeS l (a : Int) := by
      rw [e1, takeS, takeS, if_pos hin1, if_pos hik.1, e0]
      exact moveL_get ha hb _
    refine Tr.frame (take_i d1 (by omega) (b : Int)) rfl ?_
    rintro r H' ⟨s5, rfl, A5, c5, g5, m5, d5, rfl, rfl⟩
    refine ⟨rfl, fun _ => ?_⟩
    replace hd := hd.mono m5
    replace d2 := d2.mono m5
    replace d3 := d3.mono m5
    replace d4 := d4.mono m5
    rw [e3] at d5 ⊢
    rw [e4]
    conv => whnf
    refine Tr.pure (Texts_tr d5 d3 (by omega)) rfl rfl ?_
    rw [decide_eq_true rfl]
    conv => whnf
    refine Tr.pure (Texts_tr d3 d4 (by omega)) rfl rfl ?_
    rw [decide_eq_true rfl]
    conv => whnf
    refine Tr.pure (Texts_tr d2 hd (by rw [e2]; omega)) rfl rfl ?_
    rw [decide_eq_true e2]
    conv => whnf
    have f1 : errI (inr (movedL l (a : Int) (b : Int)) (b : Int) ∧ inr (movedL l (a : Int) (b : Int)) (a : Int)) = 0 := if_pos (by rw [e1]; exact ⟨hin1, hin2⟩)
    have f2 : errI (inr l (a : Int)) = 0 := if_pos hik.1
    have f3 : errI (inr (movedL l (a : Int) (b : Int)) (b : Int)) = 0 := if_pos (by rw [e1]; exact hin1)
    rw [decide_eq_true f1]
    conv => whnf
    rw [decide_eq_true f2]
    conv => whnf
    rw [decide_eq_true f2]
    conv => whnf
    rw [decide_eq_true f3]
    conv => whnf
    rw [decide_eq_true rfl]
    conv => whnf
    show SV.v (.bool (decide (((movedL l (a : Int) (b : Int)).length : Int) = (l.length : Int)))) = _
    rw [decide_eq_true (by rw [e1, hlen])]
  · have he : errI (inr l i ∧ inr l k) = 9 := if_neg hik
    rw [decide_eq_false (by rw [he]; decide)]
    conv => whnf
    have e1 : movedL l i k = l := if_neg hik
    refine Tr.pure (Texts_tr d1 hd (by omega)) rfl rfl ?_
    rw [decide_eq_true e1]
    conv => whnf
    show SV.v (.bool (_ == _)) = _
    rw [beq_self_eq_true]
end Go.Proofs.Ythdkofhgdmgdcab
