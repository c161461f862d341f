import Derived.Test.YthdkofhgdmgdcabQg
set_option linter.unusedVariables false
set_option linter.unusedSimpArgs false
namespace Go.Proofs.Ythdkofhgdmgdcab
open Go Go.Sx

theorem _root_.Go.Sx.Dat.cut {g : Addr → Option Value} {A : Option Addr} {n c size : Nat} {xs : List Value} (h : Dat g A n c size xs) {lo hi : Nat} (h1 : lo ≤ hi) (h2 : hi ≤ n) :
    Dat g (slA A lo size c) (hi - lo) (c - lo) size ((xs.drop (lo * size)).take ((hi - lo) * size)) := by
  cases A with
  | none => exact h.nilPart h1 h2
  | some a => exact h.part (fun i j => add_add a i j) h1 h2
set_option maxRecDepth 100000 in
theorem rMove_tr {G : Addr → Option Value} {A : Option Addr} {c : Nat} {l : List ByteArray} (hd : Dat G A l.length c 1 (strs l)) (hl : l.length ≤ 900) {i k : Nat} (hi : i < l.length) (hk : k < l.length) :
    Tr Try.prog 21 [lv A l.length c, iv i, iv k] (H0 G) fun r H' => ∃ s, r = .tup [s, iv 0] ∧ Told G (moveL l i k l[i]) s H' := by
  cases A with
  | none => have := (hd.nil rfl).1; omega
  | some a =>
  refine Tr.drop (Tr.weak (Tr.of_body tabOk Try.func21 (by kernel_rfl) ?_))
  conv => whnf
  rw [decide_eq_false (by omega)]
  conv => whnf
  rw [decide_eq_false (by omega)]
  conv => whnf
  refine Tr.frame (rwithout_tr hd hl) rfl ?_
  rintro r H' ⟨A1, c1, g', h1, h2, rfl, rfl⟩
  have hw := wl_all hi
  rw [hw] at h2 ⊢
  have hel : (l.eraseIdx i).length = l.length - 1 := List.length_eraseIdx_of_lt hi
  have hle := h2.le
  refine ⟨rfl, fun _ => ?_⟩
  conv => whnf
  refine bltG (by omega) ?_
  conv => whnf
  have p1 := h2.cut (lo := 0) (hi := k) (Nat.zero_le _) (by omega)
  have p2 := h2.cut (lo := k) (hi := (l.eraseIdx i).length) (by omega) (Nat.le_refl _)
  have e1 : ((strs (l.eraseIdx i)).drop (0 * 1)).take ((k - 0) * 1) = strs ((l.eraseIdx i).take k) := by simp [List.map_take]
  have e2 : ((strs (l.eraseIdx i)).drop (k * 1)).take (((l.eraseIdx i).length - k) * 1) = strs ((l.eraseIdx i).drop k) := by
    rw [List.take_of_length_le (by simp)]; simp [List.map_drop]
  rw [e1] at p1
  rw [e2] at p2
  refine BltQ.app_new tabOk rfl (srcOf_dat p1) rfl (strs_one _) (show k - 0 ≤ maxLen by simp only [maxLen]; omega) (show (k - 0) * 16 ≤ 140737488355328 by omega) fun A2 c2 hA2 => ?_
  conv => whnf
  refine bltG hi ?_
  conv => whnf
  refine ⟨.string l[i], .inl (h1 _ _ (hd.cells a rfl (i * 1) _ (by simp [hi]))), ?_⟩
  conv => whnf
  refine BldQ.box ?_
  conv => whnf
  refine BltQ.app_own tabOk rfl 0 rfl (m := 1) (vs := strs [l[i]]) (srcOf_box rfl rfl rfl) rfl (strs_one _) (show k - 0 + 1 ≤ maxLen by simp only [maxLen]; omega) (show (k - 0 + 1) * 16 ≤ 140737488355328 by omega) fun A3 c3 hA3 _ => ?_
  conv => whnf
  refine bltG (by omega) ?_
  conv => whnf
  refine BltQ.app_own tabOk rfl 0 rfl (srcOf_dat p2) rfl (strs_one _) (show k - 0 + 1 + ((l.eraseIdx i).length - k) ≤ maxLen by simp only [maxLen]; omega) (show (k - 0 + 1 + ((l.eraseIdx i).length - k)) * 16 ≤ 140737488355328 by omega) fun A4 c4 hA4 _ => ?_
  conv => whnf
  refine Weak.at (size := 1) 0 rfl rfl hA4 ?_ fun g1 h3 h4 => ?_
  · simp only [List.length_append, List.length_map, List.length_take, List.length_drop, List.length_cons, List.length_nil]; omega
  refine ⟨rfl, _, rfl, ?_⟩
  refine Told.mk2 (n := k - 0 + 1 + ((l.eraseIdx i).length - k)) ?_ rfl ?_ (fun a v h => h3 _ _ (h1 _ _ h)) h4
  · simp only [moveL, List.length_append, List.length_take, List.length_cons, List.length_drop]; omega
  · simp [moveL]

/-! ### Comparing -/
set_option maxRecDepth 100000 in
theorem Texts_tr {G : Addr → Option Value} {A B : Option Addr} {c d : Nat} {l m : List ByteArray} (hl : Dat G A l.length c 1 (strs l)) (hm : Dat G B m.length d 1 (strs m)) (hb : l.length ≤ 900) :
    Tr Try.prog 11 [lv A l.length c, lv B m.length d] (H0 G) fun r _ => r = .v (.bool (decide (l = m))) := by
  refine Tr.of_body tabOk Try.func11 (by kernel_rfl) ?_
  conv => whnf
  by_cases hn : l.length = m.length
  · rw [decide_eq_true (by omega)]
    conv => whnf
    refine Sx.loopV tabOk (ι := { k : Nat // k ≤ l.length ∧ l.take k = m.take k }) (fun p => [(5, iv p.1), (0, lv A l.length c), (1, lv B m.length d)]) (fun p => H0 G) (fun p => l.length - p.1) ⟨0, Nat.zero_le _, by simp⟩ ?_ ?_ ?_ ?_
    · exact ⟨⟨rfl, rfl, rfl, trivial⟩, rfl, fun _ _ h => h, .inl ⟨rfl, rfl⟩⟩
    · rfl
    · exact fun _ _ h => h
    · rintro ⟨k, hk, he⟩
      conv => whnf
      by_cases h1 : k < l.length
      · have h1' : k < m.length := by omega
        rw [decide_eq_true (show (k : Int) < l.length by omega)]
        conv => whnf
        cases A with
        | none => have := (hl.nil rfl).1; omega
        | some a =>
        cases B with
        | none => have := (hm.nil rfl).1; omega
        | some b =>
        refine Sx.par tabOk mixed (by kernel_rfl) ?_
        conv => whnf
        refine bltG h1 ?_
        conv => whnf
        refine ⟨.string l[k], .inl (hl.cells a rfl (k * 1) _ (by simp [h1])), ?_⟩
        conv => whnf
        refine bltG h1' ?_
        conv => whnf
        refine ⟨.string m[k], .inl (hm.cells b rfl (k * 1) _ (by simp [h1'])), ?_⟩
        conv => whnf
        have hw : IntKind.wrap .i64 ((k : Int) + 1) = ((k + 1 : Nat) : Int) := by rw [wrap_i64 (by omega) (by omega)]; rfl
        by_cases h2 : l[k] = m[k]
        · rw [decide_eq_true h2]
          conv => whnf
          have he' : l.take (k + 1) = m.take (k + 1) := by
            rw [List.take_succ_eq_append_getElem h1, List.take_succ_eq_append_getElem h1', he, h2]
          refine ⟨⟨k + 1, h1, he'⟩, ?_, rfl, fun _ _ h => h, ⟨⟨?_, rfl, rfl, trivial⟩, rfl, fun _ _ h => h, .inl ⟨rfl, rfl⟩⟩⟩
          · show l.length - (k + 1) < l.length - k
            omega
          · show some (iv (IntKind.wrap .i64 ((k : Int) + 1))) = some (iv ((k + 1 : Nat) : Int))
            rw [hw]
        · rw [decide_eq_false h2]
          conv => whnf
          rw [decide_eq_false (fun h => h2 (by subst h; rfl))]
          rfl
      · rw [decide_eq_false (show ¬ (k : Int) < l.length by omega)]
        conv => whnf
        have hkl : k = l.length := by omega
        subst hkl
        rw [List.take_length, hn, List.take_length] at he
        rw [decide_eq_true he]
        rfl
  · rw [decide_eq_false (by omega)]
    conv => whnf
    rw [decide_eq_false (fun h => hn (by rw [h]))]
    rfl
def fewL (l : List ByteArray) : Prop := l.length ≤ 40 ∧ ∀ x ∈ l, x.size ≤ 500
instance (l : List ByteArray) : Decidable (fewL l) := by unfold fewL; infer_instance
set_option maxRecDepth 100000 in
theorem Few_tr {G : Addr → Option Value} {A : Option Addr} {c : Nat} {l : List ByteArray} (hl : Dat G A l.length c 1 (strs l)) : Tr Try.prog 10 [lv A l.length c] (H0 G) fun r _ => r = .v (.bool (decide (fewL l))) := by
  have hmx : l.length ≤ 9223372036854775807 := by have := hl.le; have := hl.mx; simp only [maxLen] at this; omega
  refine Tr.of_body tabOk Try.func10 (by kernel_rfl) ?_
  conv => whnf
  refine Sx.loopV tabOk (ι := { k : Nat // k ≤ l.length ∧ k ≤ 41 ∧ ∀ x ∈ l.take k, x.size ≤ 500 }) (fun p => [(3, iv p.1), (0, lv A l.length c)]) (fun p => H0 G) (fun p => l.length - p.1) ⟨0, Nat.zero_le _, by omega, by simp⟩ ?_ ?_ ?_ ?_
  · exact ⟨⟨rfl, rfl, trivial⟩, rfl, fun _ _ h => h, .inl ⟨rfl, rfl⟩⟩
  · rfl
  · exact fun _ _ h => h
  · rintro ⟨k, hk, hk2, he⟩
    conv => whnf
    have hw : IntKind.wrap .i64 ((k : Int) + 1) = ((k + 1 : Nat) : Int) := by rw [wrap_i64 (by omega) (by omega)]; rfl
    by_cases h1 : k < l.length
    · rw [decide_eq_true (show (k : Int) < l.length by omega)]
      conv => whnf
      by_cases h2 : k ≤ 40
      · rw [decide_eq_true (show (k : Int) ≤ 40 by omega)]
        conv => whnf
        cases A with
        | none => have := (hl.nil rfl).1; omega
        | some a =>
        refine bltG h1 ?_
        conv => whnf
        refine ⟨.string l[k], .inl (hl.cells a rfl (k * 1) _ (by simp [h1])), ?_⟩
        conv => whnf
        by_cases h3 : 500 < l[k].size
        · rw [decide_eq_true (show (500 : Int) < l[k].size by omega)]
          conv => whnf
          rw [decide_eq_false (fun h => by have := h.2 l[k] (List.getElem_mem h1); omega)]
          rfl
        · rw [decide_eq_false (show ¬ (500 : Int) < l[k].size by omega)]
          conv => whnf
          have he' : ∀ x ∈ l.take (k + 1), x.size ≤ 500 := by
            rw [List.take_succ_eq_append_getElem h1]
            intro x hx
            rcases List.mem_append.1 hx with hx | hx
            · exact he x hx
            · simp at hx; subst hx; omega
          refine ⟨⟨k + 1, h1, by omega, he'⟩, ?_, rfl, fun _ _ h => h, ⟨⟨?_, rfl, trivial⟩, rfl, fun _ _ h => h, .inl ⟨rfl, rfl⟩⟩⟩
          · show l.length - (k + 1) < l.length - k
            omega
          · show some (iv (IntKind.wrap .i64 ((k : Int) + 1))) = some (iv ((k + 1 : Nat) : Int))
            rw [hw]
      · rw [decide_eq_false (show ¬ (k : Int) ≤ 40 by omega)]
        conv => whnf
        have e : decide ((l.length : Int) ≤ 40) = decide (fewL l) := by
          rw [decide_eq_false (show ¬ (l.length : Int) ≤ 40 by omega), decide_eq_false (fun h => by have := h.1; omega)]
        rw [← e]
        rfl
    · rw [decide_eq_false (show ¬ (k : Int) < l.length by omega)]
      conv => whnf
      have hkl : k = l.length := by omega
      subst hkl
      rw [List.take_length] at he
      have e : decide ((l.length : Int) ≤ 40) = decide (fewL l) := by
        by_cases h4 : l.length ≤ 40
        · rw [decide_eq_true (show (l.length : Int) ≤ 40 by omega), decide_eq_true (show fewL l from ⟨h4, he⟩)]
        · rw [decide_eq_false (show ¬ (l.length : Int) ≤ 40 by omega), decide_eq_false (fun h => h4 h.1)]
      rw [← e]
      rfl
end Go.Proofs.Ythdkofhgdmgdcab
