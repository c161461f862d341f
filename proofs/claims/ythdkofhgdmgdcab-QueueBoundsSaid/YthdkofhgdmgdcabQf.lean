import Derived.Test.YthdkofhgdmgdcabQe
set_option linter.unusedVariables false
set_option linter.unusedSimpArgs false
namespace Go.Proofs.Ythdkofhgdmgdcab
open Go Go.Sx

/-- The first ones, without a place. -/
def wl (l : List ByteArray) (i : Int) (k : Nat) : List ByteArray := ((l.take k).zipIdx.filter fun x => decide ((x.2 : Int) ≠ i)).map (·.1)
theorem wl_zero (l : List ByteArray) (i : Int) : wl l i 0 = [] := by simp [wl]
theorem wl_succ {l : List ByteArray} {i : Int} {k : Nat} (hk : k < l.length) : wl l i (k + 1) = if (k : Int) ≠ i then wl l i k ++ [l[k]] else wl l i k := by
  unfold wl
  rw [List.take_succ_eq_append_getElem hk, List.zipIdx_append, List.filter_append, List.map_append]
  have hl : (l.take k).length = k := by simp; omega
  split
  · rename_i h; simp [hl, h]
  · rename_i h; simp at h; simp [hl, h]
theorem wl_len (l : List ByteArray) (i : Int) (k : Nat) : (wl l i k).length ≤ k := by
  unfold wl
  rw [List.length_map]
  refine Nat.le_trans (List.length_filter_le _ _) ?_
  simp; omega
theorem wl_all {l : List ByteArray} {i : Nat} (hi : i < l.length) : wl l i l.length = l.eraseIdx i := by
  have h : ∀ k, k ≤ l.length → wl l i k = (l.take k).eraseIdx i := by
    intro k
    induction k with
    | zero => intro _; simp [wl]
    | succ k ih =>
      intro hk
      rw [wl_succ (by omega), ih (by omega), List.take_succ_eq_append_getElem (by omega)]
      have hl : (l.take k).length = k := by simp; omega
      by_cases h1 : k = i
      · subst h1
        rw [if_neg (by simp)]
        rw [List.eraseIdx_append_of_length_le (by omega), hl, List.eraseIdx_of_length_le (by omega)]
        simp
      · rw [if_pos (by omega)]
        by_cases h2 : i < k
        · rw [List.eraseIdx_append_of_lt_length (by omega)]
        · rw [List.eraseIdx_append_of_length_le (by omega), hl, List.eraseIdx_of_length_le (l := l.take k) (by omega), List.eraseIdx_of_length_le (by simp; omega)]
  rw [h _ (Nat.le_refl _), List.take_length]
set_option maxRecDepth 100000 in
theorem rwithout_tr {G : Addr → Option Value} {A : Option Addr} {c : Nat} {l : List ByteArray} (hd : Dat G A l.length c 1 (strs l)) (hl : l.length ≤ 900) {i : Int} :
    Tr Try.prog 23 [lv A l.length c, iv i] (H0 G) (Told G (wl l i l.length)) := by
  refine Tr.drop (Tr.weak (Tr.of_body tabOk Try.func23 (by kernel_rfl) ?_))
  conv => whnf
  refine Sx.weak (Weak.nilRow 9 1 ?_)
  conv => whnf
  refine Sx.loopV tabOk (ι := { p : Nat × Option Addr × Nat // p.1 ≤ l.length ∧ RowV p.2.1 (wl l i p.1).length p.2.2 })
    (fun p => [(6, iv p.1.1), (5, lv p.1.2.1 (wl l i p.1.1).length p.1.2.2), (0, lv A l.length c), (1, iv i)]) (fun p => ⟨0, [], [⟨.slice p.1.2.1 (wl l i p.1.1).length p.1.2.2, 9, 1, (wl l i p.1.1).length, strs (wl l i p.1.1)⟩], G⟩) (fun p => l.length - p.1.1)
    ⟨(0, none, 0), Nat.zero_le _, by rw [wl_zero]; exact ⟨Nat.le_refl _, by simp, fun _ => ⟨rfl, rfl⟩, by simp⟩⟩ ?_ ?_ ?_ ?_
  · exact ⟨⟨rfl, rfl, rfl, rfl, trivial⟩, rfl, fun _ _ h => h, .inl ⟨rfl, rfl⟩⟩
  · rfl
  · exact fun _ _ h => h
  · rintro ⟨⟨k, B, cB⟩, hk, hB⟩
    simp only at hk hB
    conv => whnf
    by_cases h1 : k < l.length
    · rw [decide_eq_true (by simpa using h1)]
      conv => whnf
      cases A with
      | none => have := (hd.nil rfl).1; omega
      | some a =>
      have hw : IntKind.wrap .i64 ((k : Int) + 1) = ((k + 1 : Nat) : Int) := by rw [wrap_i64 (by omega) (by omega)]; rfl
      have hwl := wl_len l i k
      by_cases h2 : (k : Int) = i
      · rw [decide_eq_true h2]
        conv => whnf
        have hs : wl l i (k + 1) = wl l i k := by rw [wl_succ h1, if_neg (by simpa using h2)]
        refine ⟨⟨(k + 1, B, cB), h1, by simp only [hs]; exact hB⟩, ?_, rfl, fun _ _ h => h, ⟨⟨?_, ?_, rfl, rfl, trivial⟩, ?_, fun _ _ h => h, .inl ⟨rfl, rfl⟩⟩⟩
        · show l.length - (k + 1) < l.length - k
          omega
        · show some (iv (IntKind.wrap .i64 ((k : Int) + 1))) = some (iv ((k + 1 : Nat) : Int))
          rw [hw]
        · show some (lv B (wl l i k).length cB) = some (lv B (wl l i (k + 1)).length cB)
          rw [hs]
        · show [(⟨.slice B (wl l i (k + 1)).length cB, 9, 1, (wl l i (k + 1)).length, strs (wl l i (k + 1))⟩ : Row)] = [⟨.slice B (wl l i k).length cB, 9, 1, (wl l i k).length, strs (wl l i k)⟩]
          rw [hs]
      · rw [decide_eq_false h2]
        conv => whnf
        refine bltG h1 ?_
        conv => whnf
        refine ⟨.string l[k], .inl (hd.cells a rfl (k * 1) _ (by simp [h1])), ?_⟩
        conv => whnf
        refine BldQ.box ?_
        conv => whnf
        refine BltQ.app_own tabOk rfl 0 rfl (m := 1) (vs := strs [l[k]]) (srcOf_box rfl rfl rfl) rfl (strs_one _) (show (wl l i k).length + 1 ≤ maxLen by simp only [maxLen]; omega) (show ((wl l i k).length + 1) * 16 ≤ 140737488355328 by omega) fun A2 c2 hA2 _ => ?_
        conv => whnf
        have hs : wl l i (k + 1) = wl l i k ++ [l[k]] := by rw [wl_succ h1, if_pos h2]
        have hsl : (wl l i (k + 1)).length = (wl l i k).length + 1 := by rw [hs]; simp
        have hsx : strs (wl l i (k + 1)) = strs (wl l i k) ++ strs [l[k]] := by rw [hs]; simp
        refine ⟨⟨(k + 1, A2, c2), h1, by simp only [hsl]; exact hA2⟩, ?_, rfl, fun _ _ h => h, ⟨⟨?_, ?_, rfl, rfl, trivial⟩, ?_, fun _ _ h => h, .inr ⟨rfl, rfl, rfl, rfl⟩⟩⟩
        · show l.length - (k + 1) < l.length - k
          omega
        · show some (iv (IntKind.wrap .i64 ((k : Int) + 1))) = some (iv ((k + 1 : Nat) : Int))
          rw [hw]
        · show some (lv A2 ((wl l i k).length + 1) c2) = some (lv A2 (wl l i (k + 1)).length c2)
          rw [hsl]
        · show [(⟨.slice A2 (wl l i (k + 1)).length c2, 9, 1, (wl l i (k + 1)).length, strs (wl l i (k + 1))⟩ : Row)] = [⟨.slice A2 ((wl l i k).length + 1) c2, 9, 1, (wl l i k).length + 1, strs (wl l i k) ++ strs [l[k]]⟩]
          rw [hsl, hsx]
    · rw [decide_eq_false (by simpa using h1)]
      conv => whnf
      have hkl : k = l.length := by omega
      subst hkl
      refine Weak.last (rs := []) hB (by simp) fun g' h3 h4 => ?_
      exact ⟨rfl, Told.mk' rfl rfl h3 h4⟩
end Go.Proofs.Ythdkofhgdmgdcab
