import Derived.Test.YthdkofhgdmgdcabQc
set_option linter.unusedVariables false
set_option linter.unusedSimpArgs false
namespace Go.Proofs.Ythdkofhgdmgdcab
open Go Go.Sx

theorem end_list {α : Type} (e : List α) (n : Nat) (he : e.length = n) (z s : α) : (e ++ [z]).take (0 + n * 1) ++ [s] ++ (e ++ [z]).drop (0 + n * 1 + [s].length) = e ++ [s] := by
  have h1 : 0 + n * 1 = e.length := by omega
  rw [h1, List.take_left, List.drop_eq_nil_of_le (by simp), List.append_nil]
theorem ins_list {α : Type} (e : List α) (n k : Nat) (he : e.length + 1 = n) (hk : k < n) (z s : α) {X : List α} (hX : X = (e ++ [z]).take ((k + 1) * 1) ++ ((e ++ [z]).drop (k * 1)).take ((n - k - 1) * 1) ++ (e ++ [z]).drop ((k + 1) * 1 + (((e ++ [z]).drop (k * 1)).take ((n - k - 1) * 1)).length)) :
    X.take (k * 1) ++ [s] ++ X.drop (k * 1 + [s].length) = e.take k ++ s :: e.drop k := by
  have h1 : ((e ++ [z]).drop (k * 1)).take ((n - k - 1) * 1) = e.drop k := by
    rw [Nat.mul_one, Nat.mul_one, List.drop_append_of_le_length (by omega), List.take_left' (by simp; omega)]
  rw [h1] at hX
  have h2 : (e ++ [z]).drop ((k + 1) * 1 + (e.drop k).length) = [] := by
    apply List.drop_eq_nil_of_le
    simp only [List.length_append, List.length_drop, List.length_cons, List.length_nil]; omega
  rw [h2, List.append_nil] at hX
  subst hX
  have h3 : ((e ++ [z]).take ((k + 1) * 1)).length = k + 1 := by simp; omega
  have h4 : ((e ++ [z]).take ((k + 1) * 1) ++ e.drop k).take (k * 1) = e.take k := by
    rw [List.take_append_of_le_length (by omega), List.take_take, show min (k * 1) ((k + 1) * 1) = k by omega, List.take_append_of_le_length (by omega)]
  have h5 : ((e ++ [z]).take ((k + 1) * 1) ++ e.drop k).drop (k * 1 + [s].length) = e.drop k := by
    rw [show k * 1 + [s].length = ((e ++ [z]).take ((k + 1) * 1)).length by rw [h3]; simp]
    exact List.drop_left
  rw [h4, h5]; simp
theorem _root_.Go.Sx.Weak.at {H : Hp} {K : Hp → Prop} (ri : Nat) {A : Option Addr} {n c size : Nat} {r : Row} (hr : H.rows[ri]? = some r) (hrv : r.v = .slice A n c) (hv : RowV A n c) (hl : r.xs.length = n * size)
    (h : ∀ g', (∀ a v, H.g a = some v → g' a = some v) → Dat g' A n c size r.xs → K { H with rows := H.rows.eraseIdx ri, g := g' }) : Weak H K := by
  refine Weak.pub ri hr fun g' h1 h2 => h g' h1 ⟨hl, hv.le, hv.mx, hv.nil, fun a ha j u hu => ?_⟩
  have h3 := h2 a.block (by rw [hrv, ha]; rfl) j u hu
  have := hv.at0 a ha
  rw [this]; exact h3
def moveL (l : List ByteArray) (i k : Nat) (s : ByteArray) : List ByteArray := ((l.eraseIdx i).take k) ++ s :: (l.eraseIdx i).drop k
theorem Told.mk2 {G g' : Addr → Option Value} {l : List ByteArray} {A : Option Addr} {n n' c : Nat} {xs : List Value} (hn : l.length = n) (hv : n' = n) (hx : xs = strs l) (h1 : ∀ a v, G a = some v → g' a = some v) (h2 : Dat g' A n c 1 xs) : Told G l (lv A n' c) ⟨0, [], [], g'⟩ := by
  subst hv; exact Told.mk' hn hx h1 h2
set_option maxRecDepth 100000 in
theorem Move_tr {G : Addr → Option Value} {A : Option Addr} {c : Nat} {l : List ByteArray} (hd : Dat G A l.length c 1 (strs l)) (hl : l.length ≤ 900) {i k : Nat} (hi : i < l.length) (hk : k < l.length) :
    Tr Try.prog 20 [lv A l.length c, iv i, iv k] (H0 G) fun r H' => ∃ s, r = .tup [s, iv 0] ∧ Told G (moveL l i k l[i]) s H' := by
  cases A with
  | none => have := (hd.nil rfl).1; omega
  | some a =>
  refine Tr.drop (Tr.weak (Tr.of_body tabOk Try.func20 (by kernel_rfl) ?_))
  conv => whnf
  refine BldQ.box ?_
  conv => whnf
  refine Tr.of_body tabOk Try.func24 (by kernel_rfl) ?_
  conv => whnf
  refine Tr.of_body tabOk Try.func33 (by kernel_rfl) ?_
  conv => whnf
  refine Tr.of_body tabOk Try.func37 (by kernel_rfl) ?_
  conv => whnf
  refine Sx.unroll tabOk 4 ?_
  conv => whnf
  refine Tr.of_body tabOk Try.func32 (by kernel_rfl) ?_
  conv => whnf
  rw [decide_eq_false (by omega)]
  conv => whnf
  refine Tr.of_body tabOk Try.func32 (by kernel_rfl) ?_
  conv => whnf
  rw [decide_eq_false (by omega)]
  conv => whnf
  refine Tr.of_body tabOk Try.func25 (by kernel_rfl) ?_
  conv => whnf
  refine Tr.of_body tabOk Try.func29 (by kernel_rfl) ?_
  conv => whnf
  refine Sx.parF tabOk mixed 9 [2, 8] (by kernel_rfl) ?_
  conv => whnf
  refine bltG hi ?_
  conv => whnf
  refine ⟨.string l[i], .inl (hd.cells a rfl (i * 1) _ (by simp [hi])), ?_⟩
  conv => whnf
  refine ⟨fun s g rs => ∃ a c, RowV (some a) l.length c ∧ s = lv (some a) (l.length - 1) c ∧ rs = [⟨.slice (some a) l.length c, 9, 1, l.length, strs (l.eraseIdx i) ++ [.string ⟨#[]⟩]⟩], fun s g g' rs _ h => h, ?_, ?_⟩
  · conv => whnf
    refine Tr.frame (without_tr hd hl hi) rfl ?_
    rintro r H' ⟨a, c1, hA, rfl, rfl⟩
    exact ⟨rfl, fun _ => ⟨_, _, rfl, a, c1, hA, rfl, rfl⟩⟩
  conv => whnf
  refine ⟨fun s g rs => ∃ A, RowV A 1 1 ∧ A ≠ none ∧ s = lv A 1 1 ∧ rs = [⟨.slice A 1 1, 9, 1, 1, strs [l[i]]⟩], fun s g g' rs _ h => h, ?_, ?_⟩
  · conv => whnf
    refine BldQ.row (xs := strs [l[i]]) rfl (by decide) fun A hA hne => ?_
    conv => whnf
    exact ⟨_, _, rfl, A, hA, hne, rfl, rfl⟩
  conv => whnf
  intro g' hg'
  rintro _ _ ⟨a1, c1, hA1, rfl, rfl⟩
  conv => whnf
  rintro _ _ ⟨A2, hA2, hne2, rfl, rfl⟩
  conv => whnf
  cases A2 with
  | none => exact absurd rfl hne2
  | some a2 =>
  refine Tr.of_body tabOk Try.func30 (by kernel_rfl) ?_
  conv => whnf
  refine bltG (by omega) ?_
  conv => whnf
  have hle := hA1.le
  have hel : (strs (l.eraseIdx i)).length = l.length - 1 := by simp [List.length_eraseIdx_of_lt hi]
  by_cases hkn : k = l.length - 1
  · rw [decide_eq_true (by omega)]
    conv => whnf
    refine BltQ.app_in tabOk rfl 0 (j := 0) rfl rfl (at_zero hA1) (srcOf_row (ri := 1) rfl rfl hA2 rfl) rfl (strs_one _) (by omega) (splice_mk (by simp only [List.length_append, hel, List.length_cons, List.length_nil, List.length_map]; omega)) ?_
    conv => whnf
    refine Weak.trans ?_
    refine Weak.at (size := 1) 0 rfl rfl hA1 ?_ fun g1 h1 h2 => ?_
    · simp only [List.length_append, List.length_take, List.length_drop, hel, List.length_cons, List.length_nil, List.length_map]; omega
    refine Weak.at (size := 1) (r := ⟨.slice (some a2) 1 1, 9, 1, 1, strs [l[i]]⟩) 0 rfl rfl hA2 ?_ fun g2 h3 h4 => ?_
    · rfl
    refine ⟨rfl, _, rfl, ?_⟩
    refine Told.mk2 (n := l.length) ?_ (by omega) ?_ (fun a v h => h3 _ _ (h1 _ _ (hg' _ _ h))) (h2.mono h3)
    · simp only [moveL, List.length_append, List.length_take, List.length_cons, List.length_drop, List.length_eraseIdx_of_lt hi]; omega
    · subst hkn
      have := end_list (strs (l.eraseIdx i)) (l.length - 1) hel (.string ⟨#[]⟩) (.string l[i])
      have e2 : strs (moveL l i (l.length - 1) l[i]) = strs (l.eraseIdx i) ++ [.string l[i]] := by
        have h5 : (l.eraseIdx i).length = l.length - 1 := List.length_eraseIdx_of_lt hi
        rw [moveL, ← h5, List.take_length, List.drop_length]; simp
      rw [e2]; exact this
  · rw [decide_eq_false (by omega)]
    conv => whnf
    have hw1 : IntKind.wrap .i64 (((l.length - 1 : Nat) : Int) + ((1 : Nat) : Int)) = ((l.length : Nat) : Int) := by rw [wrap_i64 (by omega) (by omega)]; omega
    have hw2 : IntKind.wrap .i64 ((k : Int) + ((1 : Nat) : Int)) = ((k + 1 : Nat) : Int) := by rw [wrap_i64 (by omega) (by omega)]; rfl
    rw [hw1, decide_eq_false (by omega)]
    conv => whnf
    rw [hw1]
    conv => whnf
    refine bltG (by omega) ?_
    conv => whnf
    rw [slA_zero hA1, Nat.sub_zero, Nat.sub_zero, hw2]
    conv => whnf
    refine bltG (by omega) ?_
    conv => whnf
    rw [slA_some (show k + 1 < c1 by omega)]
    refine Tr.overlaps (tR := 4) Try.func35 (by kernel_rfl) (by kernel_rfl) (by kernel_rfl) (by kernel_rfl) Try.underlying22 (show Try.prog.info? 9 = some Try.t9 by kernel_rfl) 1 0 (by decide) rfl rfl rfl ?_ ?_ ?_
    · show some a1.block = some (a1.add _).block
      rw [add_block]
    · show 0 < l.length * 1
      omega
    conv => whnf
    refine Sx.parTail tabOk mixed 8 (by kernel_rfl) ?_
    conv => whnf
    rw [hw2]
    conv => whnf
    refine bltG (by omega) ?_
    conv => whnf
    refine bltG (by omega) ?_
    conv => whnf
    rw [slA_some (show k + 1 < c1 by omega)]
    refine BltQ.copy_in tabOk rfl 0 (j := (k + 1) * 1) (m := l.length - k - 1) rfl ?_ (at_add hA1 _) (srcOf_part (ri := 0) rfl rfl hA1 (lo := k) (hi := l.length) (m := l.length - k - 1) (by omega) (Nat.le_refl _) (by omega) ?_) ?_ ?_ (splice_mk ?_) ?_
    · show some a1.block = some (a1.add _).block
      rw [add_block]
    · simp only [List.length_append, hel, List.length_cons, List.length_nil]; omega
    · show Nat.min (l.length - k) (l.length - (k + 1)) = _
      simp only [Nat.min_def]; split <;> omega
    · intro u hu
      have := List.mem_of_mem_drop (List.mem_of_mem_take hu)
      rcases List.mem_append.1 this with h | h
      · exact strs_one _ u h
      · simp at h; subst h; rfl
    · simp only [List.length_append, List.length_take, List.length_drop, hel, List.length_cons, List.length_nil]; omega
    conv => whnf
    refine bltG (by omega) ?_
    conv => whnf
    rw [slA_some (show k < c1 by omega)]
    refine BltQ.copy_in tabOk rfl 0 (j := k * 1) (m := 1) rfl ?_ (at_add hA1 _) (srcOf_row (ri := 1) rfl rfl hA2 rfl) ?_ (strs_one _) (splice_mk ?_) ?_
    · show some a1.block = some (a1.add _).block
      rw [add_block]
    · show Nat.min 1 (l.length - k) = 1
      simp only [Nat.min_def]; split <;> omega
    · simp only [List.length_append, List.length_take, List.length_drop, hel, List.length_cons, List.length_nil, List.length_map]; omega
    conv => whnf
    have hins := ins_list (strs (l.eraseIdx i)) l.length k (by omega) hk (.string ⟨#[]⟩) (.string l[i]) rfl
    refine Weak.trans ?_
    refine Weak.at (size := 1) 0 rfl rfl hA1 ?_ fun g1 h1 h2 => ?_
    · simp only [List.length_append, List.length_take, List.length_drop, hel, List.length_cons, List.length_nil, List.length_map]; omega
    refine Weak.at (size := 1) (r := ⟨.slice (some a2) 1 1, 9, 1, 1, strs [l[i]]⟩) 0 rfl rfl hA2 ?_ fun g2 h3 h4 => ?_
    · rfl
    refine ⟨rfl, _, rfl, ?_⟩
    refine Told.mk2 (n := l.length) ?_ rfl ?_ (fun a v h => h3 _ _ (h1 _ _ (hg' _ _ h))) (h2.mono h3)
    · simp only [moveL, List.length_append, List.length_take, List.length_cons, List.length_drop, List.length_eraseIdx_of_lt hi]; omega
    · have e2 : strs (moveL l i k l[i]) = (strs (l.eraseIdx i)).take k ++ .string l[i] :: (strs (l.eraseIdx i)).drop k := by
        simp [moveL, List.map_take, List.map_drop]
      rw [e2]; exact hins
set_option maxRecDepth 100000 in
theorem Move_no {G : Addr → Option Value} {A : Option Addr} {n c : Nat} {i k : Int} (hi : ¬ (0 ≤ i ∧ i < n ∧ 0 ≤ k ∧ k < n)) :
    Tr Try.prog 20 [lv A n c, iv i, iv k] (H0 G) fun r _ => r = .tup [lv A n c, iv 9] := by
  refine Tr.of_body tabOk Try.func20 (by kernel_rfl) ?_
  conv => whnf
  refine BldQ.box ?_
  conv => whnf
  refine Tr.of_body tabOk Try.func24 (by kernel_rfl) ?_
  conv => whnf
  refine Tr.of_body tabOk Try.func33 (by kernel_rfl) ?_
  conv => whnf
  refine Tr.of_body tabOk Try.func37 (by kernel_rfl) ?_
  conv => whnf
  refine Sx.unroll tabOk 4 ?_
  conv => whnf
  refine Tr.of_body tabOk Try.func32 (by kernel_rfl) ?_
  conv => whnf
  by_cases h0 : i < 0
  · rw [decide_eq_true h0]
    conv => whnf
    refine Tr.of_body tabOk Try.func25 (by kernel_rfl) ?_
    conv => whnf
    rfl
  · rw [decide_eq_false h0]
    conv => whnf
    by_cases h1 : (n : Int) ≤ i
    · rw [decide_eq_true h1]
      conv => whnf
      refine Tr.of_body tabOk Try.func25 (by kernel_rfl) ?_
      conv => whnf
      rfl
    · rw [decide_eq_false h1]
      conv => whnf
      refine Tr.of_body tabOk Try.func32 (by kernel_rfl) ?_
      conv => whnf
      by_cases h2 : k < 0
      · rw [decide_eq_true h2]
        conv => whnf
        refine Tr.of_body tabOk Try.func25 (by kernel_rfl) ?_
        conv => whnf
        rfl
      · rw [decide_eq_false h2]
        conv => whnf
        rw [decide_eq_true (by omega)]
        conv => whnf
        refine Tr.of_body tabOk Try.func25 (by kernel_rfl) ?_
        conv => whnf
        rfl
end Go.Proofs.Ythdkofhgdmgdcab
