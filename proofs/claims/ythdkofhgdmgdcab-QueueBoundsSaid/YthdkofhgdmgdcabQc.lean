import Derived.Test.YthdkofhgdmgdcabQb
set_option linter.unusedVariables false
set_option linter.unusedSimpArgs false
namespace Go.Proofs.Ythdkofhgdmgdcab
open Go Go.Sx

theorem _root_.Go.Sx.Dat.pre {g : Addr → Option Value} {a : Addr} {n c size : Nat} {xs : List Value} (h : Dat g (some a) n c size xs) {m : Nat} (hm : m ≤ n) : Dat g (some a) m c size (xs.take (m * size)) := by
  have hl := h.len
  have hle := h.le
  have hmul : m * size ≤ n * size := Nat.mul_le_mul_right _ hm
  refine ⟨by rw [List.length_take]; omega, by omega, h.mx, by simp, fun b hb j u hu => h.cells b hb j u ?_⟩
  rw [List.getElem?_take] at hu
  split at hu
  · exact hu
  · cases hu
set_option maxRecDepth 100000 in
theorem Lose_tr {G : Addr → Option Value} {A : Option Addr} {c : Nat} {l : List ByteArray} (hd : Dat G A l.length c 1 (strs l)) (hl : l.length ≤ 900) {i : Nat} (hi : i < l.length) :
    Tr Try.prog 16 [lv A l.length c, iv i] (H0 G) fun r H' => ∃ s, r = .tup [s, iv 0] ∧ Told G (l.eraseIdx i) s H' := by
  refine Tr.drop (Tr.weak (Tr.of_body tabOk Try.func16 (by kernel_rfl) ?_))
  conv => whnf
  refine BldQ.box ?_
  conv => whnf
  refine Tr.of_body tabOk Try.func24 (by kernel_rfl) ?_
  conv => whnf
  refine Tr.of_body tabOk Try.func33 (by kernel_rfl) ?_
  conv => whnf
  refine Tr.of_body tabOk Try.func37 (by kernel_rfl) ?_
  conv => whnf
  refine Sx.unroll tabOk 3 ?_
  conv => whnf
  refine Tr.of_body tabOk Try.func32 (by kernel_rfl) ?_
  conv => whnf
  rw [decide_eq_false (by omega)]
  conv => whnf
  refine Tr.of_body tabOk Try.func25 (by kernel_rfl) ?_
  conv => whnf
  refine Tr.of_body tabOk Try.func26 (by kernel_rfl) ?_
  conv => whnf
  refine Tr.frame (without_tr hd hl hi) rfl ?_
  rintro r H' ⟨a, c1, hA, rfl, rfl⟩
  refine ⟨rfl, fun _ => ?_⟩
  conv => whnf
  refine Weak.last (rs := []) hA ?_ fun g' h1 h2 => ?_
  · simp [List.length_eraseIdx_of_lt hi]; omega
  refine ⟨rfl, _, rfl, ?_⟩
  have h3 := h2.pre (m := l.length - 1) (by omega)
  exact Told.mk' (List.length_eraseIdx_of_lt hi) (by rw [Nat.mul_one, List.take_left' (by simp [List.length_eraseIdx_of_lt hi])]) h1 h3
set_option maxRecDepth 100000 in
theorem Lose_no {G : Addr → Option Value} {A : Option Addr} {n c : Nat} {i : Int} (hi : ¬ (0 ≤ i ∧ i < n)) :
    Tr Try.prog 16 [lv A n c, iv i] (H0 G) fun r _ => r = .tup [lv A n c, iv 9] := by
  refine Tr.of_body tabOk Try.func16 (by kernel_rfl) ?_
  conv => whnf
  refine BldQ.box ?_
  conv => whnf
  refine Tr.of_body tabOk Try.func24 (by kernel_rfl) ?_
  conv => whnf
  refine Tr.of_body tabOk Try.func33 (by kernel_rfl) ?_
  conv => whnf
  refine Tr.of_body tabOk Try.func37 (by kernel_rfl) ?_
  conv => whnf
  refine Sx.unroll tabOk 3 ?_
  conv => whnf
  refine Tr.of_body tabOk Try.func32 (by kernel_rfl) ?_
  conv => whnf
  by_cases h0 : i < 0
  · rw [decide_eq_true h0]
    conv => whnf
    refine Tr.of_body tabOk Try.func25 (by kernel_rfl) ?_
    conv => whnf
    rfl
  · rw [decide_eq_false h0]
    conv => whnf
    rw [decide_eq_true (by omega)]
    conv => whnf
    refine Tr.of_body tabOk Try.func25 (by kernel_rfl) ?_
    conv => whnf
    rfl
set_option maxRecDepth 100000 in
theorem Twice_tr {G : Addr → Option Value} {A : Option Addr} {c : Nat} {l : List ByteArray} (hd : Dat G A l.length c 1 (strs l)) (hl : l.length ≤ 900) {i : Nat} (hi : i < l.length) {most : Int} (hm : -9223372036854775808 ≤ most ∧ most ≤ 9223372036854775807) :
    Tr Try.prog 18 [lv A l.length c, iv i, iv most] (H0 G) fun r H' => ∃ s, r = .tup [s, iv 0] ∧ Told G (pushL l l[i] most) s H' := by
  cases A with
  | none => have := (hd.nil rfl).1; omega
  | some a =>
  refine Tr.drop (Tr.of_body tabOk Try.func18 (by kernel_rfl) ?_)
  conv => whnf
  refine BldQ.box ?_
  conv => whnf
  refine Tr.of_body tabOk Try.func24 (by kernel_rfl) ?_
  conv => whnf
  refine Tr.of_body tabOk Try.func33 (by kernel_rfl) ?_
  conv => whnf
  refine Tr.of_body tabOk Try.func37 (by kernel_rfl) ?_
  conv => whnf
  refine Sx.unroll tabOk 3 ?_
  conv => whnf
  refine Tr.of_body tabOk Try.func32 (by kernel_rfl) ?_
  conv => whnf
  rw [decide_eq_false (by omega)]
  conv => whnf
  refine Tr.of_body tabOk Try.func25 (by kernel_rfl) ?_
  conv => whnf
  refine Tr.of_body tabOk Try.func28 (by kernel_rfl) ?_
  conv => whnf
  refine Sx.parTail tabOk mixed 6 (by kernel_rfl) ?_
  conv => whnf
  refine bltG hi ?_
  conv => whnf
  refine ⟨.string l[i], .inl (hd.cells a rfl (i * 1) _ (by simp [hi])), ?_⟩
  conv => whnf
  refine Tr.frame (push_tr hd hl hm) rfl ?_
  rintro r H' ⟨A1, c1, g', h1, h2, rfl, rfl⟩
  refine ⟨rfl, fun _ => ?_⟩
  conv => whnf
  exact ⟨rfl, _, rfl, A1, c1, g', h1, h2, rfl, rfl⟩
set_option maxRecDepth 100000 in
theorem Twice_no {G : Addr → Option Value} {A : Option Addr} {n c : Nat} {i most : Int} (hi : ¬ (0 ≤ i ∧ i < n)) :
    Tr Try.prog 18 [lv A n c, iv i, iv most] (H0 G) fun r _ => r = .tup [lv A n c, iv 9] := by
  refine Tr.of_body tabOk Try.func18 (by kernel_rfl) ?_
  conv => whnf
  refine BldQ.box ?_
  conv => whnf
  refine Tr.of_body tabOk Try.func24 (by kernel_rfl) ?_
  conv => whnf
  refine Tr.of_body tabOk Try.func33 (by kernel_rfl) ?_
  conv => whnf
  refine Tr.of_body tabOk Try.func37 (by kernel_rfl) ?_
  conv => whnf
  refine Sx.unroll tabOk 3 ?_
  conv => whnf
  refine Tr.of_body tabOk Try.func32 (by kernel_rfl) ?_
  conv => whnf
  by_cases h0 : i < 0
  · rw [decide_eq_true h0]
    conv => whnf
    refine Tr.of_body tabOk Try.func25 (by kernel_rfl) ?_
    conv => whnf
    rfl
  · rw [decide_eq_false h0]
    conv => whnf
    rw [decide_eq_true (by omega)]
    conv => whnf
    refine Tr.of_body tabOk Try.func25 (by kernel_rfl) ?_
    conv => whnf
    rfl
end Go.Proofs.Ythdkofhgdmgdcab
