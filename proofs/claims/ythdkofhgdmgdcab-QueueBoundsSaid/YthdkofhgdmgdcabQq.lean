import Derived.Test.YthdkofhgdmgdcabQp
set_option linter.unusedVariables false
set_option linter.unusedSimpArgs false
namespace Go.Proofs.Ythdkofhgdmgdcab
open Go Go.Sx

set_option maxRecDepth 100000 in
theorem bounds4 {G : Addr → Option Value} {A B : Option Addr} {c d : Nat} {q l : List ByteArray} {m : Int} (hq : Dat G A q.length c 1 (strs q)) (hd : Dat G B l.length d 1 (strs l)) (hm : 0 ≤ m ∧ m ≤ 255) :
    Tr Try.prog 4 [lv A q.length c, lv B l.length d, .v (.int .u8 m)] (H0 G) fun r _ => r = .v (.bool true) := by
  refine Tr.of_body tabOk Try.func4 (by kernel_rfl) ?_
  conv => whnf
  refine Tr.pure (works_tr _) rfl rfl ?_
  conv => whnf
  refine Tr.pure (Few_tr hq) rfl rfl ?_
  by_cases hf1 : fewL q
  case neg =>
    rw [decide_eq_false hf1]
    conv => whnf
    rfl
  rw [decide_eq_true hf1]
  conv => whnf
  refine Tr.pure (Few_tr hd) rfl rfl ?_
  by_cases hf : fewL l
  case neg =>
    rw [decide_eq_false hf]
    conv => whnf
    rfl
  rw [decide_eq_true hf]
  conv => whnf
  have h40 := hf.1
  have hn : ∃ n : Nat, n ≤ 9 ∧ (IntKind.wrap .i64 m).tmod 10 = (n : Int) := by
    rw [wrap_i64 (by omega) (by omega)]
    exact ⟨m.toNat % 10, by omega, by rw [Int.tmod_eq_emod_of_nonneg hm.1]; omega⟩
  obtain ⟨n, hn9, hn⟩ := hn
  rw [hn]
  have hlen : ∀ k, (bq q l n k).length ≤ q.length + k := by
    intro k
    induction k with
    | zero => simp [bq]
    | succ k ih => rw [bq]; have := push_le (bq q l n k) (l.getD k ⟨#[]⟩) n; omega
  have hq40 := hf1.1
  refine Sx.loopV tabOk (ι := { p : Nat × Option Addr × Nat × (Addr → Option Value) // p.1 ≤ l.length ∧ (∀ a v, G a = some v → p.2.2.2 a = some v) ∧ Dat p.2.2.2 p.2.1 (bq q l n p.1).length p.2.2.1 1 (strs (bq q l n p.1)) })
    (fun p => [(10, iv p.1.1), (0, lv p.1.2.1 (bq q l n p.1.1).length p.1.2.2.1), (1, lv B l.length d), (9, iv n), (7, .v (.bool true))]) (fun p => ⟨0, [], [], p.1.2.2.2⟩) (fun p => l.length - p.1.1)
    ⟨(0, A, c, G), Nat.zero_le _, fun _ _ h => h, hq⟩ ?_ ?_ ?_ ?_
  · exact ⟨⟨rfl, rfl, rfl, rfl, rfl, trivial⟩, rfl, fun _ _ h => h, .inl ⟨rfl, rfl⟩⟩
  · rfl
  · exact fun _ _ h => h
  · rintro ⟨⟨k, C, cC, g⟩, hk, hg, hC⟩
    simp only at hk hg hC
    have hlk := hlen k
    conv => whnf
    by_cases h1 : k < l.length
    · rw [decide_eq_true (show (k : Int) < l.length by omega)]
      conv => whnf
      cases B with
      | none => have := (hd.nil rfl).1; omega
      | some b =>
      refine bltG h1 ?_
      conv => whnf
      refine ⟨.string l[k], .inl (hg _ _ (hd.cells b rfl (k * 1) _ (by simp [h1]))), ?_⟩
      conv => whnf
      refine Tr.frame (Push_tr (s := l[k]) (most := (n : Int)) hC (show (bq q l n k).length ≤ 900 by omega) (by omega)) rfl ?_
      rintro r H' ⟨A1, c1, g1, m1, d1, rfl, rfl⟩
      refine ⟨rfl, fun _ => ?_⟩
      have hs : bq q l n (k + 1) = pushL (bq q l n k) l[k] (n : Int) := by rw [bq]; simp [List.getD, h1]
      rw [← hs] at d1 ⊢
      conv => whnf
      refine Sx.par tabOk mixed (by kernel_rfl) ?_
      conv => whnf
      have hX : bq q l n (k + 1) = (bq q l n k ++ [l[k]]).drop ((bq q l n k).length + 1 - n) := by rw [hs, pushL_nat]
      have hXl : (bq q l n (k + 1)).length = (bq q l n k).length + 1 - ((bq q l n k).length + 1 - n) := by rw [hX]; simp
      have hw : IntKind.wrap .i64 ((k : Int) + 1) = ((k + 1 : Nat) : Int) := by rw [wrap_i64 (by omega) (by omega)]; rfl
      have hw2 : IntKind.wrap .i64 (((bq q l n k).length : Int) + 1) = ((bq q l n k).length : Int) + 1 := wrap_i64 (by omega) (by omega)
      rw [decide_eq_false (show ¬ (n : Int) < (bq q l n (k + 1)).length by omega)]
      conv => whnf
      by_cases h2 : 0 < n
      · rw [decide_eq_true (show (0 : Int) < n by omega)]
        conv => whnf
        rw [decide_eq_false (show ¬ ((bq q l n (k + 1)).length : Int) = 0 by omega)]
        conv => whnf
        rw [show IntKind.wrap .i64 (((bq q l n (k + 1)).length : Int) - 1) = (((bq q l n (k + 1)).length - 1 : Nat) : Int) by rw [wrap_i64 (by omega) (by omega)]; omega]
        conv => whnf
        cases A1 with
        | none => have := (d1.nil rfl).1; omega
        | some a1 =>
        refine bltG (show (bq q l n (k + 1)).length - 1 < (bq q l n (k + 1)).length by omega) ?_
        conv => whnf
        have hlast : (strs (bq q l n (k + 1)))[((bq q l n (k + 1)).length - 1) * 1]? = some (.string l[k]) := by
          rw [Nat.mul_one, hXl, hX]
          rw [strs, List.getElem?_map, List.getElem?_drop, List.getElem?_append_right (by omega)]
          rw [show (bq q l n k).length + 1 - n + ((bq q l n k).length + 1 - ((bq q l n k).length + 1 - n) - 1) - (bq q l n k).length = 0 by omega]
          rfl
        refine ⟨.string l[k], .inl (d1.cells a1 rfl _ _ hlast), ?_⟩
        conv => whnf
        refine bltG h1 ?_
        conv => whnf
        refine ⟨.string l[k], .inl (m1 _ _ (hg _ _ (hd.cells b rfl (k * 1) _ (by simp [h1])))), ?_⟩
        conv => whnf
        rw [decide_eq_true rfl]
        conv => whnf
        by_cases h3 : (bq q l n k).length < n
        · rw [decide_eq_true (show ((bq q l n k).length : Int) < n by omega)]
          conv => whnf
          rw [decide_eq_true (show ((bq q l n (k + 1)).length : Int) = IntKind.wrap .i64 (((bq q l n k).length : Int) + 1) by rw [hw2]; omega)]
          conv => whnf
          refine ⟨⟨(k + 1, _, c1, g1), h1, fun a v h => m1 _ _ (hg _ _ h), d1⟩, (show l.length - (k + 1) < l.length - k by omega), rfl, m1, ⟨⟨?_, rfl, rfl, rfl, rfl, trivial⟩, rfl, fun _ _ h => h, .inl ⟨rfl, rfl⟩⟩⟩
          show some (iv (IntKind.wrap .i64 ((k : Int) + 1))) = some (iv ((k + 1 : Nat) : Int))
          rw [hw]
        · rw [decide_eq_false (show ¬ ((bq q l n k).length : Int) < n by omega)]
          conv => whnf
          refine ⟨⟨(k + 1, _, c1, g1), h1, fun a v h => m1 _ _ (hg _ _ h), d1⟩, (show l.length - (k + 1) < l.length - k by omega), rfl, m1, ⟨⟨?_, rfl, rfl, rfl, rfl, trivial⟩, rfl, fun _ _ h => h, .inl ⟨rfl, rfl⟩⟩⟩
          show some (iv (IntKind.wrap .i64 ((k : Int) + 1))) = some (iv ((k + 1 : Nat) : Int))
          rw [hw]
      · rw [decide_eq_false (show ¬ (0 : Int) < n by omega)]
        conv => whnf
        by_cases h3 : (bq q l n k).length < n
        · rw [decide_eq_true (show ((bq q l n k).length : Int) < n by omega)]
          conv => whnf
          rw [decide_eq_true (show ((bq q l n (k + 1)).length : Int) = IntKind.wrap .i64 (((bq q l n k).length : Int) + 1) by rw [hw2]; omega)]
          conv => whnf
          refine ⟨⟨(k + 1, _, c1, g1), h1, fun a v h => m1 _ _ (hg _ _ h), d1⟩, (show l.length - (k + 1) < l.length - k by omega), rfl, m1, ⟨⟨?_, rfl, rfl, rfl, rfl, trivial⟩, rfl, fun _ _ h => h, .inl ⟨rfl, rfl⟩⟩⟩
          show some (iv (IntKind.wrap .i64 ((k : Int) + 1))) = some (iv ((k + 1 : Nat) : Int))
          rw [hw]
        · rw [decide_eq_false (show ¬ ((bq q l n k).length : Int) < n by omega)]
          conv => whnf
          refine ⟨⟨(k + 1, _, c1, g1), h1, fun a v h => m1 _ _ (hg _ _ h), d1⟩, (show l.length - (k + 1) < l.length - k by omega), rfl, m1, ⟨⟨?_, rfl, rfl, rfl, rfl, trivial⟩, rfl, fun _ _ h => h, .inl ⟨rfl, rfl⟩⟩⟩
          show some (iv (IntKind.wrap .i64 ((k : Int) + 1))) = some (iv ((k + 1 : Nat) : Int))
          rw [hw]
    · rw [decide_eq_false (show ¬ (k : Int) < l.length by omega)]
      conv => whnf
      have hkl : k = l.length := by omega
      subst hkl
      by_cases h4 : l.length < n
      · rw [decide_eq_true (show (l.length : Int) < n by omega)]
        conv => whnf
        rfl
      rw [decide_eq_false (show ¬ (l.length : Int) < n by omega)]
      conv => whnf
      by_cases h5 : l.length = 0
      · rw [decide_eq_true (show (l.length : Int) = 0 by omega)]
        conv => whnf
        rfl
      rw [decide_eq_false (show ¬ (l.length : Int) = 0 by omega)]
      conv => whnf
      rw [show IntKind.wrap .i64 ((l.length : Int) - n) = ((l.length - n : Nat) : Int) by rw [wrap_i64 (by omega) (by omega)]; omega]
      refine bltG (show l.length - n < l.length + 1 by omega) ?_
      conv => whnf
      have hd2 := _root_.Go.Sx.Dat.cut (hd.mono hg) (Nat.sub_le l.length n) (Nat.le_refl _)
      have hx : ((strs l).drop ((l.length - n) * 1)).take ((l.length - (l.length - n)) * 1) = strs (l.drop (l.length - n)) := by
        rw [Nat.mul_one, Nat.mul_one, strs, strs, ← List.map_drop, ← List.map_take, List.take_of_length_le (by simp)]
      rw [hx] at hd2
      have hb := bq_last (q := q) (l := l) (n := n) (by omega) (by omega)
      have hx2 : l.length - (l.length - n) = (l.drop (l.length - n)).length := by rw [List.length_drop]
      rw [hx2] at hd2 ⊢
      refine Tr.pure (Texts_tr hC hd2 (show (bq q l n l.length).length ≤ 900 by omega)) rfl rfl ?_
      rw [decide_eq_true hb]
      conv => whnf
      rfl
end Go.Proofs.Ythdkofhgdmgdcab
