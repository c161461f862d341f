import Derived.Test.YtmjpidjdbofdjaaVd
/- Contracts: tests of values, entries. -/
set_option linter.unusedVariables false
set_option linter.unusedSimpArgs false
set_option maxRecDepth 100000
namespace Go.Proofs.Ytmjpidjdbofdjaa
open Go Go.Sy
theorem any_idx {α : Type} (p : α → Bool) (l : List α) : l.any p = decide ((0 : Int) ≤ match l.findIdx? p with | some i => (i : Int) | none => -1) := by
  cases h : l.findIdx? p with
  | none => rw [List.findIdx?_eq_none_iff] at h; simp; grind
  | some i => obtain ⟨h1, h2, _⟩ := List.findIdx?_eq_some_iff_getElem.1 h; simp; exact ⟨_, List.getElem_mem h1, h2⟩
theorem c_slices_ContainsFunc_int (p : Int → Bool) (g : Nat) (hg : ∀ n, Fc Try.prog g [iv n] (sb (p n))) (l : List Int) (hl : l.length < 2 ^ 62) :
    Fc Try.prog n_slices_ContainsFunc_Lint_int [ints l, .clo (.func g) [] []] (sb (l.any p)) := by
  refine Fc.of_body tabOk q_slices_ContainsFunc_Lint_int (by kernel_rfl) ((blwL_cons (blw_ints 0 l) (blwL_one rfl))) (rfl) ?_
  conv => whnf
  repeat' (first
    | (refine bltG (by first | omega | (simp only [List.length_map] at *; omega)) ?_; conv => whnf)
    | (refine ndG (by assumption) ?_; conv => whnf)
    | (refine mulG ?_; conv => whnf)
    | (refine And.intro rfl ?_; conv => whnf)
    | (refine dsT (by assumption) ?_; conv => whnf)
    | (refine dsF (by assumption) ?_; conv => whnf)
    | (refine nsT (by assumption) ?_; conv => whnf)
    | (refine nsF (by assumption) ?_; conv => whnf)
    | (refine bsT (by assumption) ?_; conv => whnf)
    | (refine bsF (by assumption) ?_; conv => whnf)
    | (refine dsp ?_ ?_ <;> intro _ <;> conv => whnf)
    | (refine nsp ?_ ?_ <;> intro _ <;> conv => whnf)
    | (refine cnd_true (by assumption) ?_; conv => whnf)
    | (refine cnd_false (by assumption) ?_; conv => whnf)
    | (refine cnd_split ?_ ?_ <;> intro _ <;> conv => whnf)
    | (refine Cd.par tabOk (by kernel_rfl) (by kernel_rfl) ?_; conv => whnf)
    | (refine Fc.use (c_slices_IndexFunc_int p g hg l hl) ?_ ?_; (focus ((repeat' constructor); done)); conv => whnf)
    | (refine CallQ.of (c_slices_IndexFunc_int p g hg l hl) ?_ ?_; (focus ((repeat' constructor); done)); conv => whnf))
  rw [show l.any p = decide ((0 : Int) ≤ match l.findIdx? p with | some i => i | none => -1) from any_idx p l]
  rfl
theorem c_counter_odd (n : Int) : Fc Try.prog n_value_counter_is_1 [iv n] (sb (decide (n < 0 ∨ 65535 < n))) := by
  refine Fc.of_body tabOk q_value_counter_is_1 (by kernel_rfl) (rfl) (rfl) ?_
  conv => whnf
  repeat' (first
    | (refine bltG (by first | omega | (simp only [List.length_map] at *; omega)) ?_; conv => whnf)
    | (refine ndG (by assumption) ?_; conv => whnf)
    | (refine mulG ?_; conv => whnf)
    | (refine And.intro rfl ?_; conv => whnf)
    | (refine dsT (by assumption) ?_; conv => whnf)
    | (refine dsF (by assumption) ?_; conv => whnf)
    | (refine nsT (by assumption) ?_; conv => whnf)
    | (refine nsF (by assumption) ?_; conv => whnf)
    | (refine bsT (by assumption) ?_; conv => whnf)
    | (refine bsF (by assumption) ?_; conv => whnf)
    | (refine dsp ?_ ?_ <;> intro _ <;> conv => whnf)
    | (refine nsp ?_ ?_ <;> intro _ <;> conv => whnf)
    | (refine cnd_true (by assumption) ?_; conv => whnf)
    | (refine cnd_false (by assumption) ?_; conv => whnf)
    | (refine cnd_split ?_ ?_ <;> intro _ <;> conv => whnf)
    | (refine Cd.par tabOk (by kernel_rfl) (by kernel_rfl) ?_; conv => whnf))
  all_goals first
    | rfl
    | (refine sbT ?_; ((try simp only [List.length_map] at *); first | omega | grind))
    | (refine sbF ?_; ((try simp only [List.length_map] at *); first | omega | grind))
    | (refine sbD ?_; ((try simp only [List.length_map] at *); first | omega | grind))
    | (refine sbB ?_; ((try simp only [List.length_map] at *); first | omega | grind))
    | (refine ivT ?_; ((try simp only [List.length_map] at *); first | omega | grind))
    | (refine ivF ?_; ((try simp only [List.length_map] at *); first | omega | grind))
    | (refine ivD ?_; ((try simp only [List.length_map] at *); first | omega | grind))
def cntV (v : Val) : Val := ⟨v.kind, 0, 0, false, ⟨#[]⟩, v.plus, v.minus, 0⟩
def cntIs (v : Val) : Prop := v = cntV v ∧ v.plus.length = 8 ∧ v.minus.length = 8 ∧ v.plus.any (fun n => decide (n < 0 ∨ 65535 < n)) = false ∧ v.minus.any (fun n => decide (n < 0 ∨ 65535 < n)) = false
instance (v : Val) : Decidable (cntIs v) := by unfold cntIs; infer_instance
theorem c_counter_is (v : Val) (hv : v.bd) : Fc Try.prog n_value_counter_is [.agg [], v.sv] (sb (decide (cntIs v))) := by
  have h1 := hv.1; have h2 := hv.2
  refine Fc.of_body tabOk q_value_counter_is (by kernel_rfl) ((blwL_cons rfl (blwL_one (blw_val 0 v)))) (rfl) ?_
  conv => whnf
  repeat' (first
    | (refine bltG (by first | omega | (simp only [List.length_map] at *; omega)) ?_; conv => whnf)
    | (refine ndG (by assumption) ?_; conv => whnf)
    | (refine mulG ?_; conv => whnf)
    | (refine And.intro rfl ?_; conv => whnf)
    | (refine dsT (by assumption) ?_; conv => whnf)
    | (refine dsF (by assumption) ?_; conv => whnf)
    | (refine nsT (by assumption) ?_; conv => whnf)
    | (refine nsF (by assumption) ?_; conv => whnf)
    | (refine bsT (by assumption) ?_; conv => whnf)
    | (refine bsF (by assumption) ?_; conv => whnf)
    | (refine dsp ?_ ?_ <;> intro _ <;> conv => whnf)
    | (refine nsp ?_ ?_ <;> intro _ <;> conv => whnf)
    | (refine cnd_true (by assumption) ?_; conv => whnf)
    | (refine cnd_false (by assumption) ?_; conv => whnf)
    | (refine cnd_split ?_ ?_ <;> intro _ <;> conv => whnf)
    | (refine Cd.par tabOk (by kernel_rfl) (by kernel_rfl) ?_; conv => whnf)
    | (refine Tr.of_body tabOk q_value_only (by kernel_rfl) ?_; conv => whnf)
    | (refine Tr.of_body tabOk q_value_counter_is_2 (by kernel_rfl) ?_; conv => whnf)
    | (refine Fc.use (c_value_Same v (cntV v) hv) ?_ ?_; (focus ((repeat' constructor); done)); conv => whnf)
    | (refine CallQ.of (c_value_Same v (cntV v) hv) ?_ ?_; (focus ((repeat' constructor); done)); conv => whnf)
    | (refine Fc.use (c_slices_ContainsFunc_int _ _ c_counter_odd v.plus (by omega)) ?_ ?_; (focus ((repeat' constructor); done)); conv => whnf)
    | (refine CallQ.of (c_slices_ContainsFunc_int _ _ c_counter_odd v.plus (by omega)) ?_ ?_; (focus ((repeat' constructor); done)); conv => whnf)
    | (refine Fc.use (c_slices_ContainsFunc_int _ _ c_counter_odd v.minus (by omega)) ?_ ?_; (focus ((repeat' constructor); done)); conv => whnf)
    | (refine CallQ.of (c_slices_ContainsFunc_int _ _ c_counter_odd v.minus (by omega)) ?_ ?_; (focus ((repeat' constructor); done)); conv => whnf))
  all_goals first
    | rfl
    | (refine sbT ?_; ((try simp only [List.length_map, cntIs] at *); first | omega | grind))
    | (refine sbF ?_; ((try simp only [List.length_map, cntIs] at *); first | omega | grind))
    | (refine sbD ?_; ((try simp only [List.length_map, cntIs] at *); first | omega | grind))
    | (refine sbB ?_; ((try simp only [List.length_map, cntIs] at *); first | omega | grind))
    | (refine ivT ?_; ((try simp only [List.length_map, cntIs] at *); first | omega | grind))
    | (refine ivF ?_; ((try simp only [List.length_map, cntIs] at *); first | omega | grind))
    | (refine ivD ?_; ((try simp only [List.length_map, cntIs] at *); first | omega | grind))
def flgV (v : Val) : Val := ⟨v.kind, 0, 0, false, ⟨#[]⟩, [], [], v.flags⟩
theorem c_flags_is (v : Val) (hv : v.bd) : Fc Try.prog n_value_flags_is [.agg [], v.sv] (sb (decide (v = flgV v))) := by
  refine Fc.of_body tabOk q_value_flags_is (by kernel_rfl) ((blwL_cons rfl (blwL_one (blw_val 0 v)))) (rfl) ?_
  conv => whnf
  repeat' (first
    | (refine bltG (by first | omega | (simp only [List.length_map] at *; omega)) ?_; conv => whnf)
    | (refine ndG (by assumption) ?_; conv => whnf)
    | (refine mulG ?_; conv => whnf)
    | (refine And.intro rfl ?_; conv => whnf)
    | (refine dsT (by assumption) ?_; conv => whnf)
    | (refine dsF (by assumption) ?_; conv => whnf)
    | (refine nsT (by assumption) ?_; conv => whnf)
    | (refine nsF (by assumption) ?_; conv => whnf)
    | (refine bsT (by assumption) ?_; conv => whnf)
    | (refine bsF (by assumption) ?_; conv => whnf)
    | (refine dsp ?_ ?_ <;> intro _ <;> conv => whnf)
    | (refine nsp ?_ ?_ <;> intro _ <;> conv => whnf)
    | (refine cnd_true (by assumption) ?_; conv => whnf)
    | (refine cnd_false (by assumption) ?_; conv => whnf)
    | (refine cnd_split ?_ ?_ <;> intro _ <;> conv => whnf)
    | (refine Cd.par tabOk (by kernel_rfl) (by kernel_rfl) ?_; conv => whnf)
    | (refine Tr.of_body tabOk q_value_only (by kernel_rfl) ?_; conv => whnf)
    | (refine Tr.of_body tabOk q_value_flags_is_1 (by kernel_rfl) ?_; conv => whnf)
    | (refine Fc.use (c_value_Same v (flgV v) hv) ?_ ?_; (focus ((repeat' constructor); done)); conv => whnf)
    | (refine CallQ.of (c_value_Same v (flgV v) hv) ?_ ?_; (focus ((repeat' constructor); done)); conv => whnf))
  all_goals first
    | rfl
    | (refine sbT ?_; ((try simp only [List.length_map] at *); first | omega | grind))
    | (refine sbF ?_; ((try simp only [List.length_map] at *); first | omega | grind))
    | (refine sbD ?_; ((try simp only [List.length_map] at *); first | omega | grind))
    | (refine sbB ?_; ((try simp only [List.length_map] at *); first | omega | grind))
    | (refine ivT ?_; ((try simp only [List.length_map] at *); first | omega | grind))
    | (refine ivF ?_; ((try simp only [List.length_map] at *); first | omega | grind))
    | (refine ivD ?_; ((try simp only [List.length_map] at *); first | omega | grind))
def valOk (v : Val) : Prop := (v.kind = 1 ∧ regIs v) ∨ (v.kind = 2 ∧ cntIs v) ∨ (v.kind = 3 ∧ v = flgV v)
instance (v : Val) : Decidable (valOk v) := by unfold valOk; infer_instance
end Go.Proofs.Ytmjpidjdbofdjaa

