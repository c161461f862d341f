import Derived.Test.YthdkofhgdmgdcabQf
set_option linter.unusedVariables false
set_option linter.unusedSimpArgs false
namespace Go.Proofs.Ythdkofhgdmgdcab
open Go Go.Sx

theorem Told.mono {G g g' : Addr → Option Value} {l : List ByteArray} {s : SV} (h : ∃ A c, Dat g A l.length c 1 (strs l) ∧ s = lv A l.length c) (h1 : ∀ a v, G a = some v → g' a = some v) (h2 : ∀ a v, g a = some v → g' a = some v) : Told G l s ⟨0, [], [], g'⟩ := by
  obtain ⟨A, c, hd, rfl⟩ := h
  exact ⟨A, c, g', h1, hd.mono h2, rfl, rfl⟩
set_option maxRecDepth 100000 in
theorem rLose_tr {G : Addr → Option Value} {A : Option Addr} {c : Nat} {l : List ByteArray} (hd : Dat G A l.length c 1 (strs l)) (hl : l.length ≤ 900) {i : Nat} (hi : i < l.length) :
    Tr Try.prog 17 [lv A l.length c, iv i] (H0 G) fun r H' => ∃ s, r = .tup [s, iv 0] ∧ Told G (l.eraseIdx i) s H' := by
  refine Tr.drop (Tr.of_body tabOk Try.func17 (by kernel_rfl) ?_)
  conv => whnf
  rw [decide_eq_false (by omega)]
  conv => whnf
  refine Tr.frame (rwithout_tr hd hl) rfl ?_
  rintro r H' ⟨A1, c1, g', h1, h2, rfl, rfl⟩
  refine ⟨rfl, fun _ => ?_⟩
  conv => whnf
  rw [wl_all hi] at h2 ⊢
  exact ⟨rfl, _, rfl, A1, c1, g', h1, h2, rfl, rfl⟩
set_option maxRecDepth 100000 in
theorem rLose_no {G : Addr → Option Value} {A : Option Addr} {n c : Nat} {i : Int} (hi : ¬ (0 ≤ i ∧ i < n)) :
    Tr Try.prog 17 [lv A n c, iv i] (H0 G) fun r _ => r = .tup [lv A n c, iv 9] := by
  refine Tr.of_body tabOk Try.func17 (by kernel_rfl) ?_
  conv => whnf
  by_cases h0 : i < 0
  · rw [decide_eq_true h0]
    conv => whnf
    rfl
  · rw [decide_eq_false h0]
    conv => whnf
    rw [decide_eq_true (by omega)]
    conv => whnf
    rfl
set_option maxRecDepth 100000 in
theorem rTwice_tr {G : Addr → Option Value} {A : Option Addr} {c : Nat} {l : List ByteArray} (hd : Dat G A l.length c 1 (strs l)) (hl : l.length ≤ 900) {i : Nat} (hi : i < l.length) {most : Int} (hm : -9223372036854775808 ≤ most ∧ most ≤ 9223372036854775807) :
    Tr Try.prog 19 [lv A l.length c, iv i, iv most] (H0 G) fun r H' => ∃ s, r = .tup [s, iv 0] ∧ Told G (pushL l l[i] most) s H' := by
  cases A with
  | none => have := (hd.nil rfl).1; omega
  | some a =>
  refine Tr.drop (Tr.of_body tabOk Try.func19 (by kernel_rfl) ?_)
  conv => whnf
  rw [decide_eq_false (by omega)]
  conv => whnf
  refine bltG hi ?_
  conv => whnf
  refine ⟨.string l[i], .inl (hd.cells a rfl (i * 1) _ (by simp [hi])), ?_⟩
  conv => whnf
  refine Tr.frame (rPush_tr hd hl hm) rfl ?_
  rintro r H' ⟨A1, c1, g', h1, h2, rfl, rfl⟩
  refine ⟨rfl, fun _ => ?_⟩
  conv => whnf
  exact ⟨rfl, _, rfl, A1, c1, g', h1, h2, rfl, rfl⟩
set_option maxRecDepth 100000 in
theorem rTwice_no {G : Addr → Option Value} {A : Option Addr} {n c : Nat} {i most : Int} (hi : ¬ (0 ≤ i ∧ i < n)) :
    Tr Try.prog 19 [lv A n c, iv i, iv most] (H0 G) fun r _ => r = .tup [lv A n c, iv 9] := by
  refine Tr.of_body tabOk Try.func19 (by kernel_rfl) ?_
  conv => whnf
  by_cases h0 : i < 0
  · rw [decide_eq_true h0]
    conv => whnf
    rfl
  · rw [decide_eq_false h0]
    conv => whnf
    rw [decide_eq_true (by omega)]
    conv => whnf
    rfl
set_option maxRecDepth 100000 in
theorem rTake_no {G : Addr → Option Value} {A : Option Addr} {n c : Nat} {i : Int} (hi : ¬ (0 ≤ i ∧ i < n)) :
    Tr Try.prog 15 [lv A n c, iv i] (H0 G) fun r _ => r = .tup [sv ⟨#[]⟩, lv A n c, iv 9] := by
  refine Tr.of_body tabOk Try.func15 (by kernel_rfl) ?_
  conv => whnf
  by_cases h0 : i < 0
  · rw [decide_eq_true h0]
    conv => whnf
    rfl
  · rw [decide_eq_false h0]
    conv => whnf
    rw [decide_eq_true (by omega)]
    conv => whnf
    rfl
set_option maxRecDepth 100000 in
theorem rTake_tr {G : Addr → Option Value} {A : Option Addr} {c : Nat} {l : List ByteArray} (hd : Dat G A l.length c 1 (strs l)) (hl : l.length ≤ 900) {i : Nat} (hi : i < l.length) :
    Tr Try.prog 15 [lv A l.length c, iv i] (H0 G) fun r H' => ∃ s, r = .tup [sv l[i], s, iv 0] ∧ Told G (l.eraseIdx i) s H' := by
  cases A with
  | none => have := (hd.nil rfl).1; omega
  | some a =>
  refine Tr.drop (Tr.of_body tabOk Try.func15 (by kernel_rfl) ?_)
  conv => whnf
  rw [decide_eq_false (by omega)]
  conv => whnf
  refine Sx.parF tabOk mixed 7 [6] (by kernel_rfl) ?_
  conv => whnf
  refine bltG hi ?_
  conv => whnf
  refine ⟨.string l[i], .inl (hd.cells a rfl (i * 1) _ (by simp [hi])), ?_⟩
  conv => whnf
  refine ⟨fun s g rs => rs = [] ∧ ∃ A c, Dat g A (l.eraseIdx i).length c 1 (strs (l.eraseIdx i)) ∧ s = lv A (l.eraseIdx i).length c, fun s g g' rs hg h => ⟨h.1, h.2.imp fun A h => h.imp fun c h => ⟨h.1.mono hg, h.2⟩⟩, ?_, ?_⟩
  · conv => whnf
    refine Tr.frame (rwithout_tr hd hl) rfl ?_
    rintro r H' ⟨A1, c1, g', h1, h2, rfl, rfl⟩
    rw [wl_all hi] at h2 ⊢
    exact ⟨rfl, fun _ => ⟨g', [], rfl, rfl, A1, c1, h2, rfl⟩⟩
  conv => whnf
  intro g' hg'
  rintro _ _ ⟨rfl, A1, c1, h2, rfl⟩
  conv => whnf
  exact ⟨rfl, _, rfl, A1, c1, g', hg', h2, rfl, rfl⟩
set_option maxRecDepth 100000 in
theorem rMove_no {G : Addr → Option Value} {A : Option Addr} {n c : Nat} {i k : Int} (hi : ¬ (0 ≤ i ∧ i < n ∧ 0 ≤ k ∧ k < n)) :
    Tr Try.prog 21 [lv A n c, iv i, iv k] (H0 G) fun r _ => r = .tup [lv A n c, iv 9] := by
  refine Tr.of_body tabOk Try.func21 (by kernel_rfl) ?_
  conv => whnf
  by_cases h0 : i < 0
  · rw [decide_eq_true h0]
    conv => whnf
    rfl
  · rw [decide_eq_false h0]
    conv => whnf
    by_cases h1 : (n : Int) ≤ i
    · rw [decide_eq_true h1]
      conv => whnf
      rfl
    · rw [decide_eq_false h1]
      conv => whnf
      by_cases h2 : k < 0
      · rw [decide_eq_true h2]
        conv => whnf
        rfl
      · rw [decide_eq_false h2]
        conv => whnf
        rw [decide_eq_true (by omega)]
        conv => whnf
        rfl
end Go.Proofs.Ythdkofhgdmgdcab
