import Derived.Test.YthdkofhgdmgdcabQn
set_option linter.unusedVariables false
set_option linter.unusedSimpArgs false
namespace Go.Proofs.Ythdkofhgdmgdcab
open Go Go.Sx

theorem push_take {l : List ByteArray} {k : Nat} (hk : k < l.length) : pushL (l.take k) l[k] (l.length : Int) = l.take (k + 1) := by
  have h1 : (l.take k).length = k := by simp; omega
  have : (max 0 (((l.take k).length : Int) + 1 - max (l.length : Int) 0)).toNat = 0 := by rw [h1]; omega
  rw [pushL, this, List.drop_zero, List.take_succ_eq_append_getElem hk]
set_option maxRecDepth 100000 in
theorem takes7 {G : Addr → Option Value} {A : Option Addr} {c : Nat} {l : List ByteArray} (hd : Dat G A l.length c 1 (strs l)) :
    Tr Try.prog 7 [lv A l.length c] (H0 G) fun r _ => r = .v (.bool true) := by
  refine Tr.of_body tabOk Try.func7 (by kernel_rfl) ?_
  conv => whnf
  refine Tr.pure (works_tr _) rfl rfl ?_
  conv => whnf
  refine Tr.pure (Few_tr hd) rfl rfl ?_
  by_cases hf : fewL l
  case neg =>
    rw [decide_eq_false hf]
    conv => whnf
    rfl
  rw [decide_eq_true hf]
  conv => whnf
  have h40 := hf.1
  have hl : l.length ≤ 900 := by omega
  refine Sx.loopV tabOk (ι := { p : Nat × Option Addr × Nat × (Addr → Option Value) // p.1 ≤ l.length ∧ (∀ a v, G a = some v → p.2.2.2 a = some v) ∧ Dat p.2.2.2 p.2.1 (l.take p.1).length p.2.2.1 1 (strs (l.take p.1)) })
    (fun p => [(6, iv p.1.1), (5, lv p.1.2.1 (l.take p.1.1).length p.1.2.2.1), (0, lv A l.length c), (3, .v (.bool true))]) (fun p => ⟨0, [], [], p.1.2.2.2⟩) (fun p => l.length - p.1.1)
    ⟨(0, none, 0, G), Nat.zero_le _, fun _ _ h => h, ⟨rfl, Nat.le_refl _, Nat.zero_le _, fun _ => ⟨rfl, rfl⟩, by simp⟩⟩ ?_ ?_ ?_ ?_
  · exact ⟨⟨rfl, rfl, rfl, rfl, trivial⟩, rfl, fun _ _ h => h, .inl ⟨rfl, rfl⟩⟩
  · rfl
  · exact fun _ _ h => h
  · rintro ⟨⟨k, B, cB, g⟩, hk, hg, hB⟩
    simp only at hk hg hB
    have hlk : (l.take k).length = k := by simp; omega
    conv => whnf
    by_cases h1 : k < l.length
    · rw [decide_eq_true (show (k : Int) < l.length by omega)]
      conv => whnf
      cases A with
      | none => have := (hd.nil rfl).1; omega
      | some a =>
      refine bltG h1 ?_
      conv => whnf
      refine ⟨.string l[k], .inl (hg _ _ (hd.cells a rfl (k * 1) _ (by simp [h1]))), ?_⟩
      conv => whnf
      refine Tr.frame (Push_tr (s := l[k]) (most := (l.length : Int)) hB (show (l.take k).length ≤ 900 by omega) (by omega)) rfl ?_
      rintro r H' ⟨A1, c1, g1, m1, d1, rfl, rfl⟩
      refine ⟨rfl, fun _ => ?_⟩
      have hw : IntKind.wrap .i64 ((k : Int) + 1) = ((k + 1 : Nat) : Int) := by rw [wrap_i64 (by omega) (by omega)]; rfl
      rw [push_take h1] at d1 ⊢
      conv => whnf
      refine ⟨⟨(k + 1, A1, c1, g1), h1, fun a v h => m1 _ _ (hg _ _ h), d1⟩, ?_, rfl, m1, ⟨⟨?_, rfl, rfl, rfl, trivial⟩, rfl, fun _ _ h => h, .inl ⟨rfl, rfl⟩⟩⟩
      · show l.length - (k + 1) < l.length - k
        omega
      · show some (iv (IntKind.wrap .i64 ((k : Int) + 1))) = some (iv ((k + 1 : Nat) : Int))
        rw [hw]
    · rw [decide_eq_false (show ¬ (k : Int) < l.length by omega)]
      conv => whnf
      have hkl : k = l.length := by omega
      subst hkl
      rw [List.take_length] at hB
      refine Sx.weak (Weak.nilRow 9 1 ?_)
      conv => whnf
      refine Sx.loopV tabOk (ι := { p : Nat × Option Addr × Nat × (Addr → Option Value) × Option Addr × Nat // p.1 ≤ l.length ∧ (∀ a v, G a = some v → p.2.2.2.1 a = some v) ∧ Dat p.2.2.2.1 p.2.1 (l.drop p.1).length p.2.2.1 1 (strs (l.drop p.1)) ∧ RowV p.2.2.2.2.1 (l.take p.1).length p.2.2.2.2.2 })
        (fun p => [(8, iv p.1.1), (7, lv p.1.2.2.2.2.1 (l.take p.1.1).length p.1.2.2.2.2.2), (5, lv p.1.2.1 (l.drop p.1.1).length p.1.2.2.1), (0, lv A l.length c), (3, .v (.bool true))])
        (fun p => ⟨0, [], [⟨.slice p.1.2.2.2.2.1 (l.take p.1.1).length p.1.2.2.2.2.2, 9, 1, (l.take p.1.1).length, strs (l.take p.1.1)⟩], p.1.2.2.2.1⟩) (fun p => l.length - p.1.1)
        ⟨(0, B, cB, g, none, 0), Nat.zero_le _, hg, hB, ⟨Nat.le_refl _, by simp, fun _ => ⟨rfl, rfl⟩, by simp⟩⟩ ?_ ?_ ?_ ?_
      · refine ⟨⟨rfl, rfl, ?_, rfl, rfl, trivial⟩, rfl, fun _ _ h => h, .inl ⟨rfl, rfl⟩⟩
        show some (lv B (l.take l.length).length cB) = some (lv B l.length cB)
        rw [List.take_length]
      · rfl
      · exact fun _ _ h => h
      · rintro ⟨⟨j, B2, c2, g2, Ao, co⟩, hj, hg2, hq, ho⟩
        simp only at hj hg2 hq ho
        have hlt : (l.take j).length = j := by simp; omega
        have hld : (l.drop j).length = l.length - j := by simp
        conv => whnf
        by_cases h2 : j < l.length
        · rw [decide_eq_true (show (j : Int) < l.length by omega)]
          conv => whnf
          have hin : inr (l.drop j) 0 := ⟨by omega, by omega⟩
          have e1 : takeS (l.drop j) 0 = l[j] := by rw [takeS, if_pos hin]; simp [List.getD, h2]
          have e2 : loseL (l.drop j) 0 = l.drop (j + 1) := by rw [loseL, if_pos hin]; simp
          have e3 : errI (inr (l.drop j) 0) = 0 := if_pos hin
          refine Tr.frame (take_i hq (show (l.drop j).length ≤ 900 by omega) 0) rfl ?_
          rintro r H' ⟨s1, rfl, A1, c1, g1, m1, d1, rfl, rfl⟩
          refine ⟨rfl, fun _ => ?_⟩
          rw [e2] at d1 ⊢
          rw [e1, e3]
          conv => whnf
          refine BldQ.box ?_
          conv => whnf
          refine BltQ.app_own tabOk rfl 0 rfl (m := 1) (vs := strs [l[j]]) (srcOf_box rfl rfl rfl) rfl (strs_one _) (show (l.take j).length + 1 ≤ maxLen by simp only [maxLen]; omega) (show ((l.take j).length + 1) * 16 ≤ 140737488355328 by omega) fun A2 c3 hA2 _ => ?_
          conv => whnf
          have hw : IntKind.wrap .i64 ((j : Int) + 1) = ((j + 1 : Nat) : Int) := by rw [wrap_i64 (by omega) (by omega)]; rfl
          have hs : l.take (j + 1) = l.take j ++ [l[j]] := List.take_succ_eq_append_getElem h2
          have hsl : (l.take (j + 1)).length = (l.take j).length + 1 := by rw [hs, List.length_append]; rfl
          have hsx : strs (l.take (j + 1)) = strs (l.take j) ++ strs [l[j]] := by rw [hs, strs_append]
          refine ⟨⟨(j + 1, A1, c1, g1, A2, c3), h2, fun a v h => m1 _ _ (hg2 _ _ h), d1, by simp only [hsl]; exact hA2⟩, ?_, rfl, m1, ⟨⟨?_, ?_, rfl, rfl, rfl, trivial⟩, ?_, fun _ _ h => h, .inr ⟨rfl, rfl, rfl, rfl⟩⟩⟩
          · show l.length - (j + 1) < l.length - j
            omega
          · show some (iv (IntKind.wrap .i64 ((j : Int) + 1))) = some (iv ((j + 1 : Nat) : Int))
            rw [hw]
          · show some (lv A2 ((l.take j).length + 1) c3) = some (lv A2 (l.take (j + 1)).length c3)
            rw [hsl]
          · show [(⟨.slice A2 (l.take (j + 1)).length c3, 9, 1, (l.take (j + 1)).length, strs (l.take (j + 1))⟩ : Row)] = [⟨.slice A2 ((l.take j).length + 1) c3, 9, 1, (l.take j).length + 1, strs (l.take j) ++ strs [l[j]]⟩]
            rw [hsl, hsx]
        · rw [decide_eq_false (show ¬ (j : Int) < l.length by omega)]
          conv => whnf
          have hjl : j = l.length := by omega
          subst hjl
          refine Tr.weakH (Weak.at (size := 1) 0 rfl rfl ho (by simp) fun g3 m3 d3 => ?_)
          refine Tr.pure (Texts_tr (d3 : Dat g3 Ao (l.take l.length).length co 1 (strs (l.take l.length))) (hd.mono fun a v h => m3 _ _ (hg2 _ _ h)) (by simp; omega)) rfl rfl ?_
          rw [decide_eq_true (List.take_length)]
          conv => whnf
          have hin : ¬ inr (l.drop l.length) 0 := by intro h; have := h.2; simp at this
          have e2 : loseL (l.drop l.length) 0 = l.drop l.length := if_neg hin
          have e3 : errI (inr (l.drop l.length) 0) = 9 := if_neg hin
          refine Tr.frame (take_i (hq.mono m3) (by simp) 0) rfl ?_
          rintro r H' ⟨s1, rfl, A1, c1, g1, m1, d1, rfl, rfl⟩
          refine ⟨rfl, fun _ => ?_⟩
          rw [e2] at d1 ⊢
          rw [e3]
          conv => whnf
          rw [decide_eq_true (show (((l.drop l.length).length : Nat) : Int) = 0 by simp)]
          conv => whnf
          rfl
end Go.Proofs.Ythdkofhgdmgdcab
