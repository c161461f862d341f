import Derived.Test.YtmjpidjdbofdjaaVj
/- Contracts: sweep.Mend. -/
set_option linter.unusedVariables false
set_option linter.unusedSimpArgs false
set_option maxRecDepth 100000
set_option maxHeartbeats 1600000
namespace Go.Proofs.Ytmjpidjdbofdjaa
open Go Go.Sy
theorem c_sweep_may (n : Int) : Fc Try.prog n_sweep_may [iv n] (sb (decide (1 ≤ n ∧ n ≤ 8))) := by
  refine Fc.of_body tabOk q_sweep_may (by kernel_rfl) (rfl) (rfl) ?_
  conv => whnf
  repeat' (first
    | (refine bltG (by first | omega | (simp only [List.length_map] at *; omega)) ?_; conv => whnf)
    | (refine ndG (by assumption) ?_; conv => whnf)
    | (refine mulG ?_; conv => whnf)
    | (refine And.intro rfl ?_; conv => whnf)
    | (refine dsT (by assumption) ?_; conv => whnf)
    | (refine dsF (by assumption) ?_; conv => whnf)
    | (refine nsT (by assumption) ?_; conv => whnf)
    | (refine nsF (by assumption) ?_; conv => whnf)
    | (refine bsT (by assumption) ?_; conv => whnf)
    | (refine bsF (by assumption) ?_; conv => whnf)
    | (refine dsp ?_ ?_ <;> intro _ <;> conv => whnf)
    | (refine nsp ?_ ?_ <;> intro _ <;> conv => whnf)
    | (refine cnd_true (by assumption) ?_; conv => whnf)
    | (refine cnd_false (by assumption) ?_; conv => whnf)
    | (refine cnd_split ?_ ?_ <;> intro _ <;> conv => whnf)
    | (refine Cd.par tabOk (by kernel_rfl) (by kernel_rfl) ?_; conv => whnf))
  all_goals first
    | rfl
    | (refine sbT ?_; ((try simp only [List.length_map] at *); first | omega | grind))
    | (refine sbF ?_; ((try simp only [List.length_map] at *); first | omega | grind))
    | (refine sbD ?_; ((try simp only [List.length_map] at *); first | omega | grind))
    | (refine sbB ?_; ((try simp only [List.length_map] at *); first | omega | grind))
    | (refine ivT ?_; ((try simp only [List.length_map] at *); first | omega | grind))
    | (refine ivF ?_; ((try simp only [List.length_map] at *); first | omega | grind))
    | (refine ivD ?_; ((try simp only [List.length_map] at *); first | omega | grind))
/-- Where a cursor stands in an arena. -/
def mend (c : Int) (a : Ar) : Int := if arOk a ∧ 0 ≤ c ∧ c < a.slots.length then c else 0
theorem c_place_in (c : Int) (a : Ar) (ha : a.bd) : Fc Try.prog n_sweep_place_in [iv c, a.sv] (iv (mend c a)) := by
  refine Fc.of_body tabOk q_sweep_place_in (by kernel_rfl) ((blwL_cons rfl (blwL_one (blw_ar 0 a)))) (rfl) ?_
  conv => whnf
  repeat' (first
    | (refine bltG (by first | omega | (simp only [List.length_map] at *; omega)) ?_; conv => whnf)
    | (refine ndG (by assumption) ?_; conv => whnf)
    | (refine mulG ?_; conv => whnf)
    | (refine And.intro rfl ?_; conv => whnf)
    | (refine dsT (by assumption) ?_; conv => whnf)
    | (refine dsF (by assumption) ?_; conv => whnf)
    | (refine nsT (by assumption) ?_; conv => whnf)
    | (refine nsF (by assumption) ?_; conv => whnf)
    | (refine bsT (by assumption) ?_; conv => whnf)
    | (refine bsF (by assumption) ?_; conv => whnf)
    | (refine dsp ?_ ?_ <;> intro _ <;> conv => whnf)
    | (refine nsp ?_ ?_ <;> intro _ <;> conv => whnf)
    | (refine cnd_true (by assumption) ?_; conv => whnf)
    | (refine cnd_false (by assumption) ?_; conv => whnf)
    | (refine cnd_split ?_ ?_ <;> intro _ <;> conv => whnf)
    | (refine Cd.par tabOk (by kernel_rfl) (by kernel_rfl) ?_; conv => whnf)
    | (refine Fc.use (c_arena_Check a ha) ?_ ?_; (focus ((repeat' constructor); done)); conv => whnf)
    | (refine CallQ.of (c_arena_Check a ha) ?_ ?_; (focus ((repeat' constructor); done)); conv => whnf))
  all_goals unfold mend
  all_goals try simp only [List.length_map] at *
  · refine ivF ?_; intro h; rw [if_pos h.1] at *; omega
  · refine ivF ?_; intro h; omega
  · refine ivF ?_; intro h; omega
  · refine ivT ?_
    refine ⟨?_, by omega, by omega⟩
    by_cases h : arOk a
    · exact h
    · rw [if_neg h] at *; omega
theorem c_sweep_Mend (c : Int) (a : Ar) (ha : a.bd) : Fc Try.prog n_sweep_Mend [iv c, a.sv] (iv (mend c a)) := by
  refine Fc.of_body tabOk q_sweep_Mend (by kernel_rfl) ((blwL_cons rfl (blwL_one (blw_ar 0 a)))) (rfl) ?_
  conv => whnf
  repeat' (first
    | (refine bltG (by first | omega | (simp only [List.length_map] at *; omega)) ?_; conv => whnf)
    | (refine ndG (by assumption) ?_; conv => whnf)
    | (refine mulG ?_; conv => whnf)
    | (refine And.intro rfl ?_; conv => whnf)
    | (refine dsT (by assumption) ?_; conv => whnf)
    | (refine dsF (by assumption) ?_; conv => whnf)
    | (refine nsT (by assumption) ?_; conv => whnf)
    | (refine nsF (by assumption) ?_; conv => whnf)
    | (refine bsT (by assumption) ?_; conv => whnf)
    | (refine bsF (by assumption) ?_; conv => whnf)
    | (refine dsp ?_ ?_ <;> intro _ <;> conv => whnf)
    | (refine nsp ?_ ?_ <;> intro _ <;> conv => whnf)
    | (refine cnd_true (by assumption) ?_; conv => whnf)
    | (refine cnd_false (by assumption) ?_; conv => whnf)
    | (refine cnd_split ?_ ?_ <;> intro _ <;> conv => whnf)
    | (refine Cd.par tabOk (by kernel_rfl) (by kernel_rfl) ?_; conv => whnf)
    | (refine Fc.use (c_place_in c a ha) ?_ ?_; (focus ((repeat' constructor); done)); conv => whnf)
    | (refine CallQ.of (c_place_in c a ha) ?_ ?_; (focus ((repeat' constructor); done)); conv => whnf))
  rfl
end Go.Proofs.Ytmjpidjdbofdjaa

