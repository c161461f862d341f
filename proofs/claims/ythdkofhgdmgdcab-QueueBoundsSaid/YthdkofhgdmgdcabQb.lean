import Derived.Test.YthdkofhgdmgdcabQa
set_option linter.unusedVariables false
set_option linter.unusedSimpArgs false
namespace Go.Proofs.Ythdkofhgdmgdcab
open Go Go.Sx

theorem bltG {m n : Nat} {X Y : Prop} (h : m < n) (hx : X) : (match Nat.blt m n with | true => X | false => Y) := by rw [blt_t h]; exact hx
theorem splice_mk {α : Type} {l : List α} {o : Nat} {m : List α} (h : o + m.length ≤ l.length) : splice l o m = some (l.take o ++ m ++ l.drop (o + m.length)) := by
  unfold splice; rw [Nat.ble_eq_true_of_le h]
theorem slA_some {a : Addr} {lo es c : Nat} (h : lo < c) : slA (some a) lo es c = some (a.add (lo * es)) := by
  unfold slA; rw [if_neg (by omega)]; rfl
theorem add_block (a : Addr) (j : Nat) : (a.add j).block = a.block := by unfold Addr.add; split <;> rfl
theorem at_zero {a : Addr} {n c : Nat} (h : RowV (some a) n c) : a = (⟨a.block, 0, none⟩ : Addr).add 0 := by rw [addr0]; exact h.at0 a rfl
theorem at_add {a : Addr} {n c : Nat} (h : RowV (some a) n c) (j : Nat) : a.add j = (⟨(a.add j).block, 0, none⟩ : Addr).add j := by
  have := h.at0 a rfl
  rw [this, addr0, addr0]
/-- A list that lacks a place, made new; there is room for one more. -/
def Lost (G : Addr → Option Value) (l : List ByteArray) (i : Nat) (r : SV) (H' : Hp) : Prop :=
  ∃ a c, RowV (some a) l.length c ∧ r = lv (some a) (l.length - 1) c ∧ H' = ⟨0, [], [⟨.slice (some a) l.length c, 9, 1, l.length, strs (l.eraseIdx i) ++ [.string ⟨#[]⟩]⟩], G⟩
theorem Lost.mk' {G : Addr → Option Value} {l : List ByteArray} {i : Nat} {a : Addr} {c : Nat} {xs : List Value} (hx : xs = strs (l.eraseIdx i) ++ [.string ⟨#[]⟩]) (hA : RowV (some a) l.length c) :
    Lost G l i (lv (some a) (l.length - 1) c) ⟨0, [], [⟨.slice (some a) l.length c, 9, 1, l.length, xs⟩], G⟩ := by
  subst hx; exact ⟨a, c, hA, rfl, rfl⟩
theorem del_list {α : Type} (xs : List α) (i n : Nat) (hn : xs.length = n) (hi : i < n) (z : α) :
    (xs.take (0 + i * 1) ++ (xs.drop ((i + 1) * 1)).take ((n - (i + 1)) * 1) ++ xs.drop (0 + i * 1 + ((xs.drop ((i + 1) * 1)).take ((n - (i + 1)) * 1)).length)).take ((n - 1) * 1) ++ [z] ++
      (xs.take (0 + i * 1) ++ (xs.drop ((i + 1) * 1)).take ((n - (i + 1)) * 1) ++ xs.drop (0 + i * 1 + ((xs.drop ((i + 1) * 1)).take ((n - (i + 1)) * 1)).length)).drop ((n - 1) * 1 + [z].length) = xs.eraseIdx i ++ [z] := by
  have h1 : (xs.drop ((i + 1) * 1)).take ((n - (i + 1)) * 1) = xs.drop (i + 1) := by
    rw [Nat.mul_one, Nat.mul_one]; exact List.take_of_length_le (by simp; omega)
  rw [h1]
  have h2 : xs.take (0 + i * 1) ++ xs.drop (i + 1) = xs.eraseIdx i := by rw [List.eraseIdx_eq_take_drop_succ, Nat.zero_add, Nat.mul_one]
  rw [h2]
  have h3 : (xs.eraseIdx i).length = n - 1 := by rw [List.length_eraseIdx_of_lt (by omega), hn]
  have h4 : (n - 1) * 1 = (xs.eraseIdx i).length := by omega
  rw [h4, List.take_left]
  have h5 : ((xs.eraseIdx i) ++ xs.drop (0 + i * 1 + (xs.drop (i + 1)).length)).drop ((xs.eraseIdx i).length + [z].length) = [] := by
    apply List.drop_eq_nil_of_le
    simp only [List.length_append, List.length_drop, h3, List.length_cons, List.length_nil]
    omega
  rw [h5, List.append_nil]
set_option maxRecDepth 100000 in
theorem without_tr {G : Addr → Option Value} {A : Option Addr} {c : Nat} {l : List ByteArray} (hd : Dat G A l.length c 1 (strs l)) (hl : l.length ≤ 900) {i : Nat} (hi : i < l.length) : Tr Try.prog 27 [lv A l.length c, iv i] (H0 G) (Lost G l i) := by
  refine Tr.drop (Tr.of_body tabOk Try.func27 (by kernel_rfl) ?_)
  conv => whnf
  refine Tr.frame (clone_tr hd (by omega)) rfl ?_
  rintro r H' ⟨A1, c1, hA1, rfl, rfl⟩
  refine ⟨rfl, fun _ => ?_⟩
  conv => whnf
  rw [show IntKind.wrap .i64 ((i : Int) + 1) = ((i + 1 : Nat) : Int) by rw [wrap_i64 (by omega) (by omega)]; rfl]
  refine Tr.of_body tabOk Try.func34 (by kernel_rfl) ?_
  conv => whnf
  have hle := hA1.le
  have hne : ∃ a, A1 = some a := by
    cases A1 with
    | none => have := (hA1.nil rfl).1; omega
    | some a => exact ⟨a, rfl⟩
  obtain ⟨a, rfl⟩ := hne
  refine bltG (by omega) ?_
  conv => whnf
  refine bltG (by omega) ?_
  conv => whnf
  refine bltG (by omega) ?_
  conv => whnf
  rw [decide_eq_false (by omega)]
  conv => whnf
  refine Sx.parTail tabOk mixed 6 (by kernel_rfl) ?_
  conv => whnf
  refine bltG (by omega) ?_
  conv => whnf
  refine bltG (by omega) ?_
  conv => whnf
  rw [slA_zero hA1, Nat.sub_zero, Nat.sub_zero]
  refine BltQ.app_in tabOk rfl 0 (j := 0) rfl rfl (at_zero hA1) (srcOf_part (ri := 0) rfl rfl hA1 (lo := i + 1) (hi := l.length) (m := l.length - (i + 1)) (by omega) (Nat.le_refl _) (Nat.le_refl _) (by simp)) rfl ?_ ?_ (splice_mk ?_) ?_
  · intro u hu; exact strs_one l u (List.mem_of_mem_drop (List.mem_of_mem_take hu))
  · omega
  · simp; omega
  conv => whnf
  rw [show i + (l.length - (i + 1)) = l.length - 1 by omega]
  refine bltG (by omega) ?_
  conv => whnf
  refine bltG (by omega) ?_
  conv => whnf
  rw [slA_some (show l.length - 1 < c1 by omega), show l.length - (l.length - 1) = 1 by omega]
  refine BltQ.clear_in tabOk rfl rfl rfl 0 (j := (l.length - 1) * 1) rfl ?_ (at_add hA1 _) (by decide) (splice_mk ?_) ?_
  · show some a.block = some (a.add _).block
    rw [add_block]
  · simp only [List.length_append, List.length_take, List.length_drop, List.length_map, repV, List.length_cons, List.length_nil]; omega
  conv => whnf
  refine ⟨rfl, Lost.mk' ?_ hA1⟩
  have h := del_list (strs l) i l.length (by simp) hi (.string ⟨#[]⟩)
  have e : (strs l).eraseIdx i = strs (l.eraseIdx i) := by rw [strs, strs, List.eraseIdx_eq_take_drop_succ, List.eraseIdx_eq_take_drop_succ, List.map_append, List.map_take, List.map_drop]
  rw [e] at h
  exact h
end Go.Proofs.Ythdkofhgdmgdcab
