import Derived.Test.YthdkofhgdmgdcabQh
set_option linter.unusedVariables false
set_option linter.unusedSimpArgs false
set_option linter.unusedSectionVars false
namespace Go.Proofs.Ythdkofhgdmgdcab
open Go Go.Sx

def inr (l : List ByteArray) (i : Int) : Prop := 0 ≤ i ∧ i < l.length
instance (l : List ByteArray) (i : Int) : Decidable (inr l i) := by unfold inr; infer_instance
def errI (p : Prop) [Decidable p] : Int := if p then 0 else 9
def loseL (l : List ByteArray) (i : Int) : List ByteArray := if inr l i then l.eraseIdx i.toNat else l
def takeS (l : List ByteArray) (i : Int) : ByteArray := if inr l i then l.getD i.toNat ⟨#[]⟩ else ⟨#[]⟩
def twiceL (l : List ByteArray) (i most : Int) : List ByteArray := if inr l i then pushL l (l.getD i.toNat ⟨#[]⟩) most else l
def movedL (l : List ByteArray) (i k : Int) : List ByteArray := if inr l i ∧ inr l k then moveL l i.toNat k.toNat (l.getD i.toNat ⟨#[]⟩) else l
def TellsL (G : Addr → Option Value) (l : List ByteArray) (e : Int) (r : SV) (H' : Hp) : Prop := ∃ s, r = .tup [s, iv e] ∧ Told G l s H'
def TellsT (G : Addr → Option Value) (t : ByteArray) (l : List ByteArray) (e : Int) (r : SV) (H' : Hp) : Prop := ∃ s, r = .tup [sv t, s, iv e] ∧ Told G l s H'
section
variable {G : Addr → Option Value} {A : Option Addr} {c : Nat} {l : List ByteArray} (hd : Dat G A l.length c 1 (strs l)) (hl : l.length ≤ 900)
include hd hl
theorem told_self : Told G l (lv A l.length c) (H0 G) := ⟨A, c, G, fun _ _ h => h, hd, rfl, rfl⟩
theorem lose_c (f : Nat) (h1 : ∀ i : Nat, i < l.length → Tr Try.prog f [lv A l.length c, iv i] (H0 G) fun r H' => ∃ s, r = .tup [s, iv 0] ∧ Told G (l.eraseIdx i) s H')
    (h2 : ∀ i : Int, ¬ (0 ≤ i ∧ i < l.length) → Tr Try.prog f [lv A l.length c, iv i] (H0 G) fun r _ => r = .tup [lv A l.length c, iv 9]) (i : Int) :
    Tr Try.prog f [lv A l.length c, iv i] (H0 G) (TellsL G (loseL l i) (errI (inr l i))) := by
  by_cases h : inr l i
  · obtain ⟨k, rfl⟩ := Int.eq_ofNat_of_zero_le h.1
    rw [loseL, errI, if_pos h, if_pos h]
    exact h1 k (by have := h.2; omega)
  · rw [loseL, errI, if_neg h, if_neg h]
    exact Tr.pure (h2 i h) rfl rfl ⟨_, rfl, told_self hd hl⟩
theorem lose_i (i : Int) : Tr Try.prog 16 [lv A l.length c, iv i] (H0 G) (TellsL G (loseL l i) (errI (inr l i))) := lose_c hd hl 16 (fun i hi => Lose_tr hd hl hi) (fun i hi => Lose_no hi) i
theorem lose_r (i : Int) : Tr Try.prog 17 [lv A l.length c, iv i] (H0 G) (TellsL G (loseL l i) (errI (inr l i))) := lose_c hd hl 17 (fun i hi => rLose_tr hd hl hi) (fun i hi => rLose_no hi) i
theorem take_c (f : Nat) (h1 : ∀ (i : Nat) (hi : i < l.length), Tr Try.prog f [lv A l.length c, iv i] (H0 G) fun r H' => ∃ s, r = .tup [sv l[i], s, iv 0] ∧ Told G (l.eraseIdx i) s H')
    (h2 : ∀ i : Int, ¬ (0 ≤ i ∧ i < l.length) → Tr Try.prog f [lv A l.length c, iv i] (H0 G) fun r _ => r = .tup [sv ⟨#[]⟩, lv A l.length c, iv 9]) (i : Int) :
    Tr Try.prog f [lv A l.length c, iv i] (H0 G) (TellsT G (takeS l i) (loseL l i) (errI (inr l i))) := by
  by_cases h : inr l i
  · obtain ⟨k, rfl⟩ := Int.eq_ofNat_of_zero_le h.1
    have hk : k < l.length := by have := h.2; omega
    rw [loseL, errI, takeS, if_pos h, if_pos h, if_pos h]
    have := h1 k hk
    have e : l.getD (Int.toNat k) ⟨#[]⟩ = l[k] := by simp [List.getD, hk]
    rw [e]; exact this
  · rw [loseL, errI, takeS, if_neg h, if_neg h, if_neg h]
    exact Tr.pure (h2 i h) rfl rfl ⟨_, rfl, told_self hd hl⟩
theorem take_i (i : Int) : Tr Try.prog 14 [lv A l.length c, iv i] (H0 G) (TellsT G (takeS l i) (loseL l i) (errI (inr l i))) := take_c hd hl 14 (fun i hi => Take_tr hd hl hi) (fun i hi => Take_no hi) i
theorem take_r (i : Int) : Tr Try.prog 15 [lv A l.length c, iv i] (H0 G) (TellsT G (takeS l i) (loseL l i) (errI (inr l i))) := take_c hd hl 15 (fun i hi => rTake_tr hd hl hi) (fun i hi => rTake_no hi) i
theorem twice_c (f : Nat) (most : Int) (h1 : ∀ (i : Nat) (hi : i < l.length), Tr Try.prog f [lv A l.length c, iv i, iv most] (H0 G) fun r H' => ∃ s, r = .tup [s, iv 0] ∧ Told G (pushL l l[i] most) s H')
    (h2 : ∀ i : Int, ¬ (0 ≤ i ∧ i < l.length) → Tr Try.prog f [lv A l.length c, iv i, iv most] (H0 G) fun r _ => r = .tup [lv A l.length c, iv 9]) (i : Int) :
    Tr Try.prog f [lv A l.length c, iv i, iv most] (H0 G) (TellsL G (twiceL l i most) (errI (inr l i))) := by
  by_cases h : inr l i
  · obtain ⟨k, rfl⟩ := Int.eq_ofNat_of_zero_le h.1
    have hk : k < l.length := by have := h.2; omega
    rw [twiceL, errI, if_pos h, if_pos h]
    have := h1 k hk
    have e : l.getD (Int.toNat k) ⟨#[]⟩ = l[k] := by simp [List.getD, hk]
    rw [e]; exact this
  · rw [twiceL, errI, if_neg h, if_neg h]
    exact Tr.pure (h2 i h) rfl rfl ⟨_, rfl, told_self hd hl⟩
theorem twice_i (i : Int) {most : Int} (hm : -9223372036854775808 ≤ most ∧ most ≤ 9223372036854775807) : Tr Try.prog 18 [lv A l.length c, iv i, iv most] (H0 G) (TellsL G (twiceL l i most) (errI (inr l i))) := twice_c hd hl 18 most (fun i hi => Twice_tr hd hl hi hm) (fun i hi => Twice_no hi) i
theorem twice_r (i : Int) {most : Int} (hm : -9223372036854775808 ≤ most ∧ most ≤ 9223372036854775807) : Tr Try.prog 19 [lv A l.length c, iv i, iv most] (H0 G) (TellsL G (twiceL l i most) (errI (inr l i))) := twice_c hd hl 19 most (fun i hi => rTwice_tr hd hl hi hm) (fun i hi => rTwice_no hi) i
theorem move_c (f : Nat) (h1 : ∀ (i k : Nat) (hi : i < l.length) (hk : k < l.length), Tr Try.prog f [lv A l.length c, iv i, iv k] (H0 G) fun r H' => ∃ s, r = .tup [s, iv 0] ∧ Told G (moveL l i k l[i]) s H')
    (h2 : ∀ i k : Int, ¬ (0 ≤ i ∧ i < l.length ∧ 0 ≤ k ∧ k < l.length) → Tr Try.prog f [lv A l.length c, iv i, iv k] (H0 G) fun r _ => r = .tup [lv A l.length c, iv 9]) (i k : Int) :
    Tr Try.prog f [lv A l.length c, iv i, iv k] (H0 G) (TellsL G (movedL l i k) (errI (inr l i ∧ inr l k))) := by
  by_cases h : inr l i ∧ inr l k
  · obtain ⟨a, rfl⟩ := Int.eq_ofNat_of_zero_le h.1.1
    obtain ⟨b, rfl⟩ := Int.eq_ofNat_of_zero_le h.2.1
    have ha : a < l.length := by have := h.1.2; omega
    have hb : b < l.length := by have := h.2.2; omega
    rw [movedL, errI, if_pos h, if_pos h]
    have := h1 a b ha hb
    have e : l.getD (Int.toNat a) ⟨#[]⟩ = l[a] := by simp [List.getD, ha]
    rw [e]; exact this
  · rw [movedL, errI, if_neg h, if_neg h]
    exact Tr.pure (h2 i k (fun hh => h ⟨⟨hh.1, hh.2.1⟩, hh.2.2⟩)) rfl rfl ⟨_, rfl, told_self hd hl⟩
theorem move_i (i k : Int) : Tr Try.prog 20 [lv A l.length c, iv i, iv k] (H0 G) (TellsL G (movedL l i k) (errI (inr l i ∧ inr l k))) := move_c hd hl 20 (fun i k hi hk => Move_tr hd hl hi hk) (fun i k h => Move_no h) i k
theorem move_r (i k : Int) : Tr Try.prog 21 [lv A l.length c, iv i, iv k] (H0 G) (TellsL G (movedL l i k) (errI (inr l i ∧ inr l k))) := move_c hd hl 21 (fun i k hi hk => rMove_tr hd hl hi hk) (fun i k h => rMove_no h) i k
end
end Go.Proofs.Ythdkofhgdmgdcab
