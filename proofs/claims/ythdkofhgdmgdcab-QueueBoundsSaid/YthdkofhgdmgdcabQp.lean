import Derived.Test.YthdkofhgdmgdcabQo
set_option linter.unusedVariables false
set_option linter.unusedSimpArgs false
namespace Go.Proofs.Ythdkofhgdmgdcab
open Go Go.Sx

/-! QueueBounds: the plain law of the loop (not walked yet). -/
theorem pushL_nat (l : List ByteArray) (s : ByteArray) (n : Nat) : pushL l s (n : Int) = (l ++ [s]).drop (l.length + 1 - n) := by
  rw [pushL]
  congr 1
  omega
/-- The queue behind so many pushes. -/
def bq (q l : List ByteArray) (n : Nat) : Nat → List ByteArray
  | 0 => q
  | k + 1 => pushL (bq q l n k) (l.getD k ⟨#[]⟩) (n : Int)
theorem bq_succ (q l : List ByteArray) (n : Nat) : ∀ k, k < l.length → bq q l n (k + 1) = (q ++ l.take (k + 1)).drop (q.length + (k + 1) - n)
  | 0, h => by
    have e : l.getD 0 ⟨#[]⟩ = l[0] := by simp [List.getD, h]
    rw [bq, bq, pushL_nat, e]
    rw [List.take_succ_eq_append_getElem h]
    simp
  | k + 1, h => by
    have e : l.getD (k + 1) ⟨#[]⟩ = l[k + 1] := by simp [List.getD, h]
    rw [bq, pushL_nat, bq_succ q l n k (by omega), e]
    have hl : (q ++ l.take (k + 1)).length = q.length + (k + 1) := by simp; omega
    have hd : ((q ++ l.take (k + 1)).drop (q.length + (k + 1) - n)).length = q.length + (k + 1) - (q.length + (k + 1) - n) := by rw [List.length_drop, hl]
    rw [hd, List.take_succ_eq_append_getElem h, ← List.append_assoc]
    have h2 : (q ++ l.take (k + 1)).drop (q.length + (k + 1) - n) ++ [l[k + 1]] = (q ++ l.take (k + 1) ++ [l[k + 1]]).drop (q.length + (k + 1) - n) :=
      (List.drop_append_of_le_length (by rw [hl]; omega)).symm
    rw [h2, List.drop_drop]
    congr 1
    omega
theorem bq_last {q l : List ByteArray} {n : Nat} (h0 : 0 < l.length) (hn : n ≤ l.length) : bq q l n l.length = l.drop (l.length - n) := by
  obtain ⟨k, hk⟩ : ∃ k, l.length = k + 1 := ⟨l.length - 1, by omega⟩
  rw [hk, bq_succ q l n k (by omega), ← hk, List.take_length, List.drop_append]
  rw [List.drop_eq_nil_of_le (by omega), List.nil_append]
  congr 1
  omega
end Go.Proofs.Ythdkofhgdmgdcab
