import Derived.Test.YthdkofhgdmgdcabQd
set_option linter.unusedVariables false
set_option linter.unusedSimpArgs false
namespace Go.Proofs.Ythdkofhgdmgdcab
open Go Go.Sx

set_option maxRecDepth 100000 in
theorem Take_tr {G : Addr → Option Value} {A : Option Addr} {c : Nat} {l : List ByteArray} (hd : Dat G A l.length c 1 (strs l)) (hl : l.length ≤ 900) {i : Nat} (hi : i < l.length) :
    Tr Try.prog 14 [lv A l.length c, iv i] (H0 G) fun r H' => ∃ s, r = .tup [sv l[i], s, iv 0] ∧ Told G (l.eraseIdx i) s H' := by
  refine Tr.drop (Tr.of_body tabOk Try.func14 (by kernel_rfl) ?_)
  conv => whnf
  refine Tr.frame (Lose_tr hd hl hi) rfl ?_
  rintro r H' ⟨s, rfl, A1, c1, g', h1, h2, rfl, rfl⟩
  refine ⟨rfl, fun _ => ?_⟩
  conv => whnf
  cases A with
  | none => have := (hd.nil rfl).1; omega
  | some a =>
  refine bltG hi ?_
  conv => whnf
  refine ⟨.string l[i], .inl (h1 _ _ (hd.cells a rfl (i * 1) _ (by simp [hi]))), ?_⟩
  conv => whnf
  exact ⟨rfl, _, rfl, A1, c1, g', h1, h2, rfl, rfl⟩
set_option maxRecDepth 100000 in
theorem Take_no {G : Addr → Option Value} {A : Option Addr} {n c : Nat} {i : Int} (hi : ¬ (0 ≤ i ∧ i < n)) :
    Tr Try.prog 14 [lv A n c, iv i] (H0 G) fun r _ => r = .tup [sv ⟨#[]⟩, lv A n c, iv 9] := by
  refine Tr.of_body tabOk Try.func14 (by kernel_rfl) ?_
  conv => whnf
  refine Tr.pure (Lose_no hi) rfl rfl ?_
  conv => whnf
  rfl

/-! ### The document's -/
def dropTo (l : List ByteArray) (most : Int) : List ByteArray := l.drop (max 0 ((l.length : Int) - max most 0)).toNat
set_option maxRecDepth 100000 in
theorem rPush_tr {G : Addr → Option Value} {A : Option Addr} {c : Nat} {l : List ByteArray} {s : ByteArray} {most : Int} (hd : Dat G A l.length c 1 (strs l)) (hl : l.length ≤ 900) (hm : -9223372036854775808 ≤ most ∧ most ≤ 9223372036854775807) :
    Tr Try.prog 13 [lv A l.length c, sv s, iv most] (H0 G) (Told G (pushL l s most)) := by
  refine Tr.drop (Tr.of_body tabOk Try.func13 (by kernel_rfl) ?_)
  conv => whnf
  refine BltQ.app_new tabOk rfl (srcOf_dat hd) rfl (strs_one l) (by simp [maxLen]; omega) (by omega) fun A1 c1 hA1 => ?_
  conv => whnf
  refine BldQ.box ?_
  conv => whnf
  refine BltQ.app_own tabOk rfl 0 rfl (m := 1) (vs := strs [s]) (srcOf_box rfl rfl rfl) rfl (strs_one _) (by simp [maxLen]; omega) (by omega) fun A2 c2 hA2 _ => ?_
  conv => whnf
  refine Sx.weak ?_
  refine Weak.last (rs := []) hA2 (by simp) fun g' h1 h2 => ?_
  have h3 : strs l ++ strs [s] = strs (l ++ [s]) := by simp
  rw [h3] at h2
  refine Sx.loopV tabOk (ι := { p : List ByteArray × Option Addr × Nat // Dat g' p.2.1 p.1.length p.2.2 1 (strs p.1) ∧ ∃ m, m ≤ l.length + 1 ∧ p.1 = (l ++ [s]).drop m ∧ (m = 0 ∨ (l.length : Int) + 1 - m ≥ max most 0 ) })
    (fun p => [(7, lv p.1.2.1 p.1.1.length p.1.2.2), (2, iv most)]) (fun p => ⟨1, [[sv s]], [], g'⟩) (fun p => p.1.1.length)
    ⟨(l ++ [s], A2, c2), by simpa using h2, 0, by omega, by simp, .inl rfl⟩ ?_ ?_ ?_ ?_
  · refine ⟨⟨?_, rfl, trivial⟩, rfl, fun _ _ h => h, .inl ⟨rfl, rfl⟩⟩
    show some (lv A2 (l.length + 1) c2) = some (lv A2 (l ++ [s]).length c2)
    simp
  · rfl
  · exact fun _ _ h => h
  · rintro ⟨⟨L, B, cB⟩, hB, m, hm1, hm2, hm3⟩
    simp only at hB hm2
    have hlen : L.length = l.length + 1 - m := by rw [hm2]; simp
    have fin : ¬ (most < L.length ∧ 0 < L.length) → Told G (pushL l s most) (lv B L.length cB) ⟨0, [], [], g'⟩ := by
      intro hn
      have hk : (max 0 ((l.length : Int) + 1 - max most 0)).toNat = m := by omega
      have : pushL l s most = L := by rw [pushL, hk, hm2]
      rw [this]
      exact Told.mk' rfl rfl h1 hB
    conv => whnf
    by_cases h5 : most < L.length
    · rw [decide_eq_true h5]
      conv => whnf
      cases L with
      | nil =>
        conv => whnf
        exact ⟨rfl, fin (by simp)⟩
      | cons x L =>
        conv => whnf
        rw [decide_eq_true (show (0 : Int) < ((x :: L).length : Nat) by simp)]
        conv => whnf
        have hB2 := Dat.tail hB
        have hm4 : m + 1 ≤ l.length + 1 := by simp at hlen; omega
        refine ⟨⟨(L, slA B 1 1 cB, cB - 1), by simpa using hB2, m + 1, hm4, ?_, .inr ?_⟩, ?_, rfl, fun _ _ h => h, ⟨⟨rfl, rfl, trivial⟩, rfl, fun _ _ h => h, .inl ⟨rfl, rfl⟩⟩⟩
        · show L = List.drop (m + 1) (l ++ [s])
          rw [← List.drop_drop, ← hm2]; rfl
        · simp at hlen h5; omega
        · show L.length < (x :: L).length
          simp
    · rw [decide_eq_false h5]
      conv => whnf
      exact ⟨rfl, fin (fun h => h5 h.1)⟩
end Go.Proofs.Ythdkofhgdmgdcab
