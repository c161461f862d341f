import Derived.Test.YthdkofhgdmgdcabTab
import Derived.Test.YthdkofhgdmgdcabSxS
set_option linter.unusedVariables false
set_option linter.unusedSimpArgs false
namespace Go.Proofs.Ythdkofhgdmgdcab
open Go Go.Sx

abbrev iv (n : Int) : SV := .v (.int .i64 n)
abbrev sv (s : ByteArray) : SV := .v (.string s)
abbrev lv (A : Option Addr) (n c : Nat) : SV := .v (.slice A n c)
abbrev H0 (g : Addr → Option Value) : Hp := ⟨0, [], [], g⟩
abbrev strs (l : List ByteArray) : List Value := l.map .string
theorem blt_t {m n : Nat} (h : m < n) : Nat.blt m n = true := by rw [Nat.blt_eq]; exact h
theorem mixed : Try.prog.follows .mixedOrders = true := by kernel_rfl
theorem strs_one (l : List ByteArray) : ∀ u ∈ strs l, u.oneCell' = true := by
  intro u hu
  obtain ⟨s, _, rfl⟩ := List.mem_map.1 hu
  rfl
/-- A list, made new. -/
def Made (G : Addr → Option Value) (l : List ByteArray) (r : SV) (H' : Hp) : Prop :=
  ∃ A' c', RowV A' l.length c' ∧ r = lv A' l.length c' ∧ H' = ⟨0, [], [⟨.slice A' l.length c', 9, 1, l.length, strs l⟩], G⟩
/-- A list that nobody writes. -/
def Told (G : Addr → Option Value) (l : List ByteArray) (r : SV) (H' : Hp) : Prop :=
  ∃ A c g', (∀ a v, G a = some v → g' a = some v) ∧ Dat g' A l.length c 1 (strs l) ∧ r = lv A l.length c ∧ H' = ⟨0, [], [], g'⟩
theorem Told.mk' {G g' : Addr → Option Value} {l : List ByteArray} {A : Option Addr} {n c : Nat} {xs : List Value} (hn : l.length = n) (hx : xs = strs l) (h1 : ∀ a v, G a = some v → g' a = some v) (h2 : Dat g' A n c 1 xs) : Told G l (lv A n c) ⟨0, [], [], g'⟩ := by
  subst hn; subst hx; exact ⟨A, c, g', h1, h2, rfl, rfl⟩
theorem Made.mk' {G : Addr → Option Value} {l : List ByteArray} {A : Option Addr} {n c : Nat} {xs : List Value} (hn : l.length = n) (hx : xs = strs l) (h2 : RowV A n c) : Made G l (lv A n c) ⟨0, [], [⟨.slice A n c, 9, 1, n, xs⟩], G⟩ := by
  subst hn; subst hx; exact ⟨A, c, h2, rfl, rfl⟩
set_option maxRecDepth 100000 in
theorem clone_tr {G : Addr → Option Value} {A : Option Addr} {c : Nat} {l : List ByteArray} (hd : Dat G A l.length c 1 (strs l)) (hl : l.length ≤ 1000) : Tr Try.prog 31 [lv A l.length c] (H0 G) (Made G l) := by
  refine Tr.weak (Tr.of_body tabOk Try.func31 (by kernel_rfl) ?_)
  conv => whnf
  cases A with
  | none =>
    obtain ⟨h1, rfl⟩ := hd.nil rfl
    have hl0 : l = [] := List.eq_nil_of_length_eq_zero h1
    subst hl0
    conv => whnf
    refine Weak.nilRow 9 1 ?_
    exact ⟨none, 0, ⟨Nat.le_refl _, by simp, fun _ => ⟨rfl, rfl⟩, by simp⟩, rfl, rfl⟩
  | some a =>
    conv => whnf
    refine BldQ.row rfl (by decide) fun A0 hA0 hne => ?_
    conv => whnf
    refine BltQ.app_own tabOk rfl 0 rfl (srcOf_dat hd) rfl (strs_one l) (by simp [maxLen]; omega) (by omega) fun A' c' hA' _ => ?_
    conv => whnf
    refine Weak.refl ⟨A', c', by simpa using hA', ?_, ?_⟩
    · simp [pack]
    · simp
theorem strs_append (l m : List ByteArray) : strs l ++ strs m = strs (l ++ m) := by simp
def pushL (l : List ByteArray) (s : ByteArray) (most : Int) : List ByteArray := (l ++ [s]).drop (max 0 ((l.length : Int) + 1 - max most 0)).toNat
set_option maxRecDepth 100000 in
theorem push_tr {G : Addr → Option Value} {A : Option Addr} {c : Nat} {l : List ByteArray} {s : ByteArray} {most : Int} (hd : Dat G A l.length c 1 (strs l)) (hl : l.length ≤ 900) (hm : -9223372036854775808 ≤ most ∧ most ≤ 9223372036854775807) :
    Tr Try.prog 22 [lv A l.length c, sv s, iv most] (H0 G) (Told G (pushL l s most)) := by
  refine Tr.drop (Tr.weak (Tr.of_body tabOk Try.func22 (by kernel_rfl) ?_))
  conv => whnf
  refine Tr.frame (clone_tr hd (by omega)) rfl ?_
  rintro r H' ⟨A1, c1, hA1, rfl, rfl⟩
  refine ⟨rfl, fun _ => ?_⟩
  conv => whnf
  refine BldQ.box ?_
  conv => whnf
  refine BltQ.app_own tabOk rfl 0 rfl (m := 1) (vs := strs [s]) (srcOf_box rfl rfl rfl) rfl (strs_one _) (by simp [maxLen]; omega) (by omega) fun A2 c2 hA2 _ => ?_
  conv => whnf
  have hz : min2 Builtin.max IntKind.i64 0 (IntKind.wrap .i64 (↑(l.length + 1) - min2 Builtin.max IntKind.i64 most 0)) = ((max 0 ((l.length : Int) + 1 - max most 0)).toNat : Nat) := by
    rw [min2_max, min2_max, wrap_i64 (by omega) (by omega)]; omega
  rw [hz]
  generalize hk : (max 0 ((l.length : Int) + 1 - max most 0)).toNat = k
  have hk2 : k ≤ l.length + 1 := by omega
  conv => whnf
  rw [blt_t (show k < l.length + 1 + 1 by omega)]
  conv => whnf
  refine Weak.last (rs := []) hA2 (by simp) fun g' h1 h2 => ?_
  have h3 := h2.slice hA2 (lo := k) (hi := l.length + 1) hk2 (Nat.le_refl _)
  refine ⟨rfl, Told.mk' ?_ ?_ h1 h3⟩
  · simp [pushL, hk]
  · rw [List.take_of_length_le (by simp)]
    simp [pushL, hk]
theorem Push_tr {G : Addr → Option Value} {A : Option Addr} {c : Nat} {l : List ByteArray} {s : ByteArray} {most : Int} (hd : Dat G A l.length c 1 (strs l)) (hl : l.length ≤ 900) (hm : -9223372036854775808 ≤ most ∧ most ≤ 9223372036854775807) :
    Tr Try.prog 12 [lv A l.length c, sv s, iv most] (H0 G) (Told G (pushL l s most)) := by
  refine Tr.of_body tabOk Try.func12 (by kernel_rfl) ?_
  conv => whnf
  refine Tr.frame (push_tr hd hl hm) rfl ?_
  rintro r H' ⟨A1, c1, g', h1, h2, rfl, rfl⟩
  refine ⟨rfl, fun _ => ?_⟩
  conv => whnf
  exact ⟨A1, c1, g', h1, h2, rfl, rfl⟩
end Go.Proofs.Ythdkofhgdmgdcab
