import Derived.Test.YthdkofhgdmgdcabQl
set_option linter.unusedVariables false
set_option linter.unusedSimpArgs false
namespace Go.Proofs.Ythdkofhgdmgdcab
open Go Go.Sx

theorem push_room (l : List ByteArray) (s : ByteArray) : pushL l s ((l.length : Int) + 1) = l ++ [s] := by
  have : (max 0 ((l.length : Int) + 1 - max ((l.length : Int) + 1) 0)).toNat = 0 := by omega
  rw [pushL, this, List.drop_zero]
set_option maxRecDepth 100000 in
theorem twice8 {G : Addr → Option Value} {A : Option Addr} {c : Nat} {l : List ByteArray} {i : Int} (hd : Dat G A l.length c 1 (strs l)) :
    Tr Try.prog 8 [lv A l.length c, iv i] (H0 G) fun r _ => r = .v (.bool true) := by
  refine Tr.of_body tabOk Try.func8 (by kernel_rfl) ?_
  conv => whnf
  refine Tr.pure (works_tr _) rfl rfl ?_
  conv => whnf
  refine Tr.pure (Few_tr hd) rfl rfl ?_
  by_cases hf : fewL l
  case neg =>
    rw [decide_eq_false hf]
    conv => whnf
    rfl
  rw [decide_eq_true hf]
  conv => whnf
  have h40 := hf.1
  have hl : l.length ≤ 900 := by omega
  by_cases h0 : i < 0
  · rw [decide_eq_true h0]
    conv => whnf
    rfl
  rw [decide_eq_false h0]
  conv => whnf
  by_cases h1 : (l.length : Int) ≤ i
  · rw [decide_eq_true h1]
    conv => whnf
    rfl
  rw [decide_eq_false h1]
  conv => whnf
  obtain ⟨n, rfl⟩ := Int.eq_ofNat_of_zero_le (by omega : 0 ≤ i)
  have hn : n < l.length := by omega
  have hin : inr l (n : Int) := ⟨by omega, by omega⟩
  have hw : IntKind.wrap .i64 ((l.length : Int) + 1) = (l.length : Int) + 1 := wrap_i64 (by omega) (by omega)
  have ht : twiceL l (n : Int) ((l.length : Int) + 1) = l ++ [l[n]] := by
    have e : l.getD (Int.toNat n) ⟨#[]⟩ = l[n] := by simp [List.getD, hn]
    rw [twiceL, if_pos hin, push_room, e]
  have he : errI (inr l (n : Int)) = 0 := if_pos hin
  rw [hw]
  refine Tr.frame (twice_i hd hl n (most := (l.length : Int) + 1) (by omega)) rfl ?_
  rintro r H' ⟨s1, rfl, A1, c1, g1, m1, d1, rfl, rfl⟩
  refine ⟨rfl, fun _ => ?_⟩
  replace hd := hd.mono m1
  rw [ht] at d1 ⊢
  rw [he]
  conv => whnf
  refine Sx.par tabOk mixed (by kernel_rfl) ?_
  conv => whnf
  rw [decide_eq_true (show (((l ++ [l[n]]).length : Nat) : Int) = IntKind.wrap .i64 ((l.length : Int) + 1) by rw [hw]; simp)]
  conv => whnf
  have hlen : (l ++ [l[n]]).length = l.length + 1 := by simp
  cases A1 with
  | none => have := (d1.nil rfl).1; omega
  | some a1 =>
  cases A with
  | none => have := (hd.nil rfl).1; omega
  | some a =>
  refine bltG (show l.length < (l ++ [l[n]]).length by omega) ?_
  conv => whnf
  refine ⟨.string l[n], .inl (d1.cells a1 rfl (l.length * 1) _ (by simp)), ?_⟩
  conv => whnf
  refine bltG hn ?_
  conv => whnf
  refine ⟨.string l[n], .inl (hd.cells a rfl (n * 1) _ (by simp [hn])), ?_⟩
  conv => whnf
  rw [decide_eq_true rfl]
  conv => whnf
  refine bltG (show n < (l ++ [l[n]]).length by omega) ?_
  conv => whnf
  refine ⟨.string l[n], .inl (d1.cells a1 rfl (n * 1) _ (by simp [hn, List.getElem?_append_left])), ?_⟩
  conv => whnf
  refine bltG hn ?_
  conv => whnf
  refine ⟨.string l[n], .inl (hd.cells a rfl (n * 1) _ (by simp [hn])), ?_⟩
  conv => whnf
  rw [decide_eq_true rfl]
  conv => whnf
  refine Tr.frame (lose_i (l := l ++ [l[n]]) d1 (by omega) (l.length : Int)) rfl ?_
  rintro r H' ⟨s2, rfl, A2, c2, g2, m2, d2, rfl, rfl⟩
  refine ⟨rfl, fun _ => ?_⟩
  have hin2 : inr (l ++ [l[n]]) (l.length : Int) := ⟨by omega, by omega⟩
  have h2 : loseL (l ++ [l[n]]) (l.length : Int) = l := by
    rw [loseL, if_pos hin2]
    show (l ++ [l[n]]).eraseIdx l.length = l
    rw [List.eraseIdx_append_of_length_le (Nat.le_refl _), Nat.sub_self]
    simp
  have h3 : errI (inr (l ++ [l[n]]) (l.length : Int)) = 0 := if_pos hin2
  rw [h2] at d2 ⊢
  rw [h3]
  replace hd := hd.mono m2
  conv => whnf
  refine Tr.pure (Texts_tr d2 hd hl) rfl rfl ?_
  rw [decide_eq_true rfl]
  conv => whnf
  rfl
end Go.Proofs.Ythdkofhgdmgdcab
