import Derived.Test.YthdkofhgdmgdcabSxR
import Derived.Test.YthdkofhgdmgdcabSxS
/- Sx, part T: how lists of texts read. -/
set_option linter.unusedVariables false
set_option linter.unusedSimpArgs false
namespace Go.Sx
open Go Go.RowKit Go.ChangeShapes
section
variable {P : Program} {g : Addr → Option Value}
theorem texts_of {a : Addr} : ∀ (n : Nat), (∀ i, i < n → ∃ s : ByteArray, g (a.add i) = some (.string s)) → ∃ l : List ByteArray, l.length = n ∧ ∀ j u, (l.map Value.string)[j]? = some u → g (a.add j) = some u
  | 0, _ => ⟨[], rfl, fun j u h => by simp at h⟩
  | n + 1, h => by
    obtain ⟨l, h1, h2⟩ := texts_of n fun i hi => h i (by omega)
    obtain ⟨s, hs⟩ := h n (by omega)
    refine ⟨l ++ [s], by simp [h1], fun j u hu => ?_⟩
    rw [List.map_append] at hu
    rcases Nat.lt_or_ge j l.length with hlt | hge
    · rw [List.getElem?_append_left (by simpa using hlt)] at hu
      exact h2 j u hu
    · rw [List.getElem?_append_right (by simpa using hge)] at hu
      have hj := (List.getElem?_eq_some_iff.1 hu).1
      simp at hj
      have : j = n := by omega
      subst this
      simp [h1] at hu
      subst hu
      exact hs
theorem open_texts {t e : TypeId} (ht : P.underlying t = some (.slice e)) (he : P.underlying e = some .string) (hc : P.cellsOf e = 1) {f : Nat} {cs : List Value} (h : Shp P g f t cs) :
    ∃ (A : Option Addr) (c : Nat) (l : List ByteArray), cs = [.slice A l.length c] ∧ Dat g A l.length c 1 (l.map .string) := by
  cases f with
  | zero => exact h.elim
  | succ f =>
    unfold Shp at h
    rw [ht] at h
    obtain ⟨A, n, c, rfl, h1, h2, h3⟩ := h
    rcases h3 with ⟨rfl, rfl, rfl⟩ | ⟨a, rfl, h3⟩
    · exact ⟨none, 0, [], rfl, ⟨rfl, Nat.le_refl _, Nat.zero_le _, fun _ => ⟨rfl, rfl⟩, by simp⟩⟩
    · have h4 : ∀ i, i < n → ∃ s : ByteArray, g (a.add i) = some (.string s) := by
        intro i hi
        obtain ⟨vs, hl, hv, hs⟩ := h3 i hi
        cases f with
        | zero => exact hs.elim
        | succ f =>
          unfold Shp at hs
          rw [he] at hs
          obtain ⟨s, rfl, _⟩ := hs
          have := hv 0 (.string s) rfl
          rw [addZero, hc, Nat.mul_one] at this
          exact ⟨s, this⟩
      obtain ⟨l, hl, hx⟩ := texts_of n h4
      subst hl
      refine ⟨some a, c, l, rfl, ⟨by simp, h1, h2, by simp, fun b hb j u hu => ?_⟩⟩
      injection hb with hb
      subst hb
      exact hx j u hu
theorem open_int {t : TypeId} {k : IntKind} {f : Nat} {cs : List Value} (ht : P.underlying t = some (.int k)) (h : Shp P g f t cs) : ∃ n, cs = [.int k n] ∧ (Lit.int k n).wf = true := by
  cases f with
  | zero => exact h.elim
  | succ f => unfold Shp at h; rw [ht] at h; exact h
theorem open_string {t : TypeId} {f : Nat} {cs : List Value} (ht : P.underlying t = some .string) (h : Shp P g f t cs) : ∃ s, cs = [.string s] ∧ s.size ≤ maxLen := by
  cases f with
  | zero => exact h.elim
  | succ f => unfold Shp at h; rw [ht] at h; exact h
end
end Go.Sx
