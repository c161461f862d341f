import Derived.Test.YtmjpidjdbofdjaaVh
/- Contracts: arena.Check. -/
set_option linter.unusedVariables false
set_option linter.unusedSimpArgs false
set_option maxRecDepth 100000
namespace Go.Proofs.Ytmjpidjdbofdjaa
open Go Go.Sy
theorem idx_inR (l : List Ent) : inR l.length (idx l) := iso_inR _ _ _ (Nat.le_refl _)
def srtd (l : List Ent) : Prop := ∀ k, k < l.length - 1 → ltI l ((idx l).getD k 0) ((idx l).getD (k + 1) 0) = true
instance (l : List Ent) : Decidable (srtd l) := by unfold srtd; infer_instance
def Ar.bd (a : Ar) : Prop := (∀ e ∈ a.slots, e.bd) ∧ a.slots.length < 2 ^ 40 ∧ a.index.length < 2 ^ 40
def arOk (a : Ar) : Prop := 1 ≤ a.cap ∧ a.cap ≤ 8 ∧ a.slots.length ≤ a.cap ∧ (∀ e ∈ a.slots, entOk e) ∧ srtd a.slots ∧ (idx a.slots).map (fun k : Nat => (k : Int)) = a.index
instance (a : Ar) : Decidable (arOk a) := by unfold arOk; infer_instance
theorem c_arena_Check (a : Ar) (ha : a.bd) : Fc Try.prog n_arena_Check [a.sv] (en (arOk a)) := by
  obtain ⟨hb, hl1, hl2⟩ := ha
  have hN : (a.slots.map Ent.sv).length = a.slots.length := List.length_map ..
  refine Fc.of_body tabOk q_arena_Check (by kernel_rfl) ((blwL_one (blw_ar 0 a))) (rfl) ?_
  conv => whnf
  by_cases hc : 1 ≤ a.cap ∧ a.cap ≤ 8 ∧ a.slots.length ≤ a.cap ∧ (∀ e ∈ a.slots, entOk e)
  · obtain ⟨c1, c2, c3, c4⟩ := hc
    have hix := c_arena_index a.slots (by omega)
    rw [nats_ints] at hix
    repeat' (first
      | (refine bltG (by first | omega | (simp only [List.length_map] at *; omega)) ?_; conv => whnf)
      | (refine ndG (by assumption) ?_; conv => whnf)
      | (refine mulG ?_; conv => whnf)
      | (refine And.intro rfl ?_; conv => whnf)
      | (refine dsT (by assumption) ?_; conv => whnf)
      | (refine dsF (by assumption) ?_; conv => whnf)
      | (refine nsT (by assumption) ?_; conv => whnf)
      | (refine nsF (by assumption) ?_; conv => whnf)
      | (refine bsT (by assumption) ?_; conv => whnf)
      | (refine bsF (by assumption) ?_; conv => whnf)
      | (refine dsp ?_ ?_ <;> intro _ <;> conv => whnf)
      | (refine nsp ?_ ?_ <;> intro _ <;> conv => whnf)
      | (refine cnd_true (by assumption) ?_; conv => whnf)
      | (refine cnd_false (by assumption) ?_; conv => whnf)
      | (refine cnd_split ?_ ?_ <;> intro _ <;> conv => whnf)
      | (refine Cd.par tabOk (by kernel_rfl) (by kernel_rfl) ?_; conv => whnf)
      | (refine Fc.use (c_odd_arena a.slots hb (by omega)) ?_ ?_; (focus ((repeat' constructor); done)); conv => whnf)
      | (refine CallQ.of (c_odd_arena a.slots hb (by omega)) ?_ ?_; (focus ((repeat' constructor); done)); conv => whnf)
      | (refine Fc.use (hix) ?_ ?_; (focus ((repeat' constructor); done)); conv => whnf)
      | (refine CallQ.of (hix) ?_ ?_; (focus ((repeat' constructor); done)); conv => whnf))
    · exfalso; omega
    · exfalso; omega
    · exfalso; rw [hN] at *; omega
    have hM : ((idx a.slots).map (fun k : Nat => (k : Int))).length = a.slots.length := by rw [List.length_map]; exact (idx_inR _).1
    have hK : (((idx a.slots).map (fun k : Nat => (k : Int))).map iv).length = a.slots.length := by rw [List.length_map]; exact hM
    refine loopP tabOk (fun i : Nat => 1 ≤ i ∧ (i ≤ a.slots.length ∨ i = 1) ∧ ∀ k, k + 1 < i → ltI a.slots ((idx a.slots).getD k 0) ((idx a.slots).getD (k + 1) 0) = true)
      (fun i => ⟨[(5, iv i), (4, ints ((idx a.slots).map (fun k : Nat => (k : Int)))), (1, .loc 0 0)], []⟩) (fun _ => ⟨1, [.c [iv a.cap, ents a.slots, ints a.index]], []⟩) (fun i => a.slots.length - i) 1 ⟨by omega, by omega, fun k hk => by omega⟩ (by repeat' constructor) (fun _ => rfl) ?_
    rintro i ⟨hi1, hi2, hs⟩
    obtain ⟨j, rfl⟩ : ∃ j, i = j + 1 := ⟨i - 1, by omega⟩
    have hw : IntKind.wrap .i64 (((j + 1 : Nat) : Int) - 1) = (j : Nat) := by rw [wrap_i64] <;> omega
    conv => whnf
    refine dsp ?_ ?_ <;> intro hlt <;> conv => whnf
    · rw [hK] at hlt
      obtain ⟨x, hx, hxl⟩ := (idx_inR a.slots).at (show j < a.slots.length by omega)
      obtain ⟨y, hy, hyl⟩ := (idx_inR a.slots).at (show j + 1 < a.slots.length by omega)
      have hx' : ((idx a.slots).map (fun k : Nat => (k : Int)))[j]? = some (x : Int) := by simp [hx]
      have hy' : ((idx a.slots).map (fun k : Nat => (k : Int)))[j + 1]? = some (y : Int) := by simp [hy]
      obtain ⟨ex, hex⟩ : ∃ e, a.slots[x]? = some e := ⟨_, List.getElem?_eq_getElem hxl⟩
      obtain ⟨ey, hey⟩ : ∃ e, a.slots[y]? = some e := ⟨_, List.getElem?_eq_getElem hyl⟩
      have hxy : ltI a.slots ((idx a.slots).getD j 0) ((idx a.slots).getD (j + 1) 0) = entLt ex ey := by
        simp only [List.getD, hx, hy, Option.getD_some]; exact ltI_at hex hey
      repeat' (first
        | (refine bltG (by first | omega | (simp only [List.length_map] at *; omega)) ?_; conv => whnf)
        | (refine ndG (by assumption) ?_; conv => whnf)
        | (refine mulG ?_; conv => whnf)
        | (refine And.intro rfl ?_; conv => whnf)
        | (refine dsT (by assumption) ?_; conv => whnf)
        | (refine dsF (by assumption) ?_; conv => whnf)
        | (refine nsT (by assumption) ?_; conv => whnf)
        | (refine nsF (by assumption) ?_; conv => whnf)
        | (refine bsT (by assumption) ?_; conv => whnf)
        | (refine bsF (by assumption) ?_; conv => whnf)
        | (refine dsp ?_ ?_ <;> intro _ <;> conv => whnf)
        | (refine nsp ?_ ?_ <;> intro _ <;> conv => whnf)
        | (refine cnd_true (by assumption) ?_; conv => whnf)
        | (refine cnd_false (by assumption) ?_; conv => whnf)
        | (refine cnd_split ?_ ?_ <;> intro _ <;> conv => whnf)
        | (refine Cd.par tabOk (by kernel_rfl) (by kernel_rfl) ?_; conv => whnf)
        | (rw [hw]; conv => whnf)
        | (refine Fc.use (c_entry_Less ex ey) ?_ ?_; (focus ((repeat' constructor); done)); conv => whnf)
        | (refine CallQ.of (c_entry_Less ex ey) ?_ ?_; (focus ((repeat' constructor); done)); conv => whnf))
      · exact enF (fun h => by
          have h1 := h.2.2.2.2.1 j (by omega)
          rw [hxy] at h1
          have h2 : (!entLt ex ey) = true := by assumption
          rw [h1] at h2; cases h2)
      · have hs' : ∀ k, k + 1 < j + 1 + 1 → ltI a.slots ((idx a.slots).getD k 0) ((idx a.slots).getD (k + 1) 0) = true := fun k hk => by
          by_cases h : k + 1 < j + 1
          · exact hs k h
          · obtain rfl : k = j := by omega
            rw [hxy]
            have h2 : (!entLt ex ey) = false := by assumption
            simpa using h2
        refine ⟨j + 1 + 1, ⟨by omega, by omega, hs'⟩, ?_, ?_⟩
        · first | omega | (simp only [List.length_map] at *; omega)
        · (repeat' constructor) <;> first | (refine ivW ?_ ?_ ?_ <;> omega)
    · repeat' (first
        | (refine bltG (by first | omega | (simp only [List.length_map] at *; omega)) ?_; conv => whnf)
        | (refine ndG (by assumption) ?_; conv => whnf)
        | (refine mulG ?_; conv => whnf)
        | (refine And.intro rfl ?_; conv => whnf)
        | (refine dsT (by assumption) ?_; conv => whnf)
        | (refine dsF (by assumption) ?_; conv => whnf)
        | (refine nsT (by assumption) ?_; conv => whnf)
        | (refine nsF (by assumption) ?_; conv => whnf)
        | (refine bsT (by assumption) ?_; conv => whnf)
        | (refine bsF (by assumption) ?_; conv => whnf)
        | (refine dsp ?_ ?_ <;> intro _ <;> conv => whnf)
        | (refine nsp ?_ ?_ <;> intro _ <;> conv => whnf)
        | (refine cnd_true (by assumption) ?_; conv => whnf)
        | (refine cnd_false (by assumption) ?_; conv => whnf)
        | (refine cnd_split ?_ ?_ <;> intro _ <;> conv => whnf)
        | (refine Cd.par tabOk (by kernel_rfl) (by kernel_rfl) ?_; conv => whnf)
        | (refine Fc.use (c_slices_Equal_int ((idx a.slots).map (fun k : Nat => (k : Int))) a.index (by omega)) ?_ ?_; (focus ((repeat' constructor); done)); conv => whnf)
        | (refine CallQ.of (c_slices_Equal_int ((idx a.slots).map (fun k : Nat => (k : Int))) a.index (by omega)) ?_ ?_; (focus ((repeat' constructor); done)); conv => whnf))
      · exact enF (fun h => absurd h.2.2.2.2.2 (by assumption))
      · rw [hK] at hlt
        exact enT ⟨c1, c2, c3, c4, fun k hk => hs k (by omega), by assumption⟩
  · repeat' (first
      | (refine bltG (by first | omega | (simp only [List.length_map] at *; omega)) ?_; conv => whnf)
      | (refine ndG (by assumption) ?_; conv => whnf)
      | (refine mulG ?_; conv => whnf)
      | (refine And.intro rfl ?_; conv => whnf)
      | (refine dsT (by assumption) ?_; conv => whnf)
      | (refine dsF (by assumption) ?_; conv => whnf)
      | (refine nsT (by assumption) ?_; conv => whnf)
      | (refine nsF (by assumption) ?_; conv => whnf)
      | (refine bsT (by assumption) ?_; conv => whnf)
      | (refine bsF (by assumption) ?_; conv => whnf)
      | (refine dsp ?_ ?_ <;> intro _ <;> conv => whnf)
      | (refine nsp ?_ ?_ <;> intro _ <;> conv => whnf)
      | (refine cnd_true (by assumption) ?_; conv => whnf)
      | (refine cnd_false (by assumption) ?_; conv => whnf)
      | (refine cnd_split ?_ ?_ <;> intro _ <;> conv => whnf)
      | (refine Cd.par tabOk (by kernel_rfl) (by kernel_rfl) ?_; conv => whnf)
      | (refine Fc.use (c_odd_arena a.slots hb (by omega)) ?_ ?_; (focus ((repeat' constructor); done)); conv => whnf)
      | (refine CallQ.of (c_odd_arena a.slots hb (by omega)) ?_ ?_; (focus ((repeat' constructor); done)); conv => whnf))
    · exact enF (fun h => hc ⟨h.1, h.2.1, h.2.2.1, h.2.2.2.1⟩)
    · exact enF (fun h => hc ⟨h.1, h.2.1, h.2.2.1, h.2.2.2.1⟩)
    · exact enF (fun h => hc ⟨h.1, h.2.1, h.2.2.1, h.2.2.2.1⟩)
    · exact enF (fun h => hc ⟨h.1, h.2.1, h.2.2.1, h.2.2.2.1⟩)
    · exfalso; rw [hN] at *; exact hc ⟨by omega, by omega, by omega, by assumption⟩
end Go.Proofs.Ytmjpidjdbofdjaa

