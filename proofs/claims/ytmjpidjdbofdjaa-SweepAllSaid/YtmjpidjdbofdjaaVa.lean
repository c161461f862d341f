import Derived.Test.YtmjpidjdbofdjaaDt
/- Contracts of small functions. -/
set_option linter.unusedVariables false
set_option linter.unusedSimpArgs false
namespace Go.Proofs.Ytmjpidjdbofdjaa
open Go Go.Sy
def valFew (v : Val) : Prop := v.text.size ≤ 100 ∧ v.plus.length ≤ 40 ∧ v.minus.length ≤ 40
instance (v : Val) : Decidable (valFew v) := by unfold valFew; infer_instance
set_option maxRecDepth 100000
theorem c_law06_Few (v : Val) : Fc Try.prog n_ouroboroslaw06_Few [v.sv] (sb (decide (valFew v))) := by
  refine Fc.of_body tabOk q_ouroboroslaw06_Few (by kernel_rfl) (blwL_one (blw_val 0 v)) (rfl) ?_
  conv => whnf
  repeat' (first
    | (refine bltG (by first | omega | (simp only [List.length_map] at *; omega)) ?_; conv => whnf)
    | (refine ndG (by assumption) ?_; conv => whnf)
    | (refine mulG ?_; conv => whnf)
    | (refine And.intro rfl ?_; conv => whnf)
    | (refine dsT (by assumption) ?_; conv => whnf)
    | (refine dsF (by assumption) ?_; conv => whnf)
    | (refine nsT (by assumption) ?_; conv => whnf)
    | (refine nsF (by assumption) ?_; conv => whnf)
    | (refine bsT (by assumption) ?_; conv => whnf)
    | (refine bsF (by assumption) ?_; conv => whnf)
    | (refine dsp ?_ ?_ <;> intro _ <;> conv => whnf)
    | (refine nsp ?_ ?_ <;> intro _ <;> conv => whnf)
    | (refine cnd_true (by assumption) ?_; conv => whnf)
    | (refine cnd_false (by assumption) ?_; conv => whnf)
    | (refine cnd_split ?_ ?_ <;> intro _ <;> conv => whnf)
    | (refine Cd.par tabOk (by kernel_rfl) (by kernel_rfl) ?_; conv => whnf))
  all_goals first
    | rfl
    | (refine sbT ?_; ((try simp only [List.length_map, valFew] at *); first | omega | grind))
    | (refine sbF ?_; ((try simp only [List.length_map, valFew] at *); first | omega | grind))
    | (refine sbD ?_; ((try simp only [List.length_map, valFew] at *); first | omega | grind))
    | (refine sbB ?_; ((try simp only [List.length_map, valFew] at *); first | omega | grind))
    | (refine ivT ?_; ((try simp only [List.length_map, valFew] at *); first | omega | grind))
    | (refine ivF ?_; ((try simp only [List.length_map, valFew] at *); first | omega | grind))
    | (refine ivD ?_; ((try simp only [List.length_map, valFew] at *); first | omega | grind))
def entFew (e : Ent) : Prop := valFew e.val ∧ e.key.size ≤ 100
instance (e : Ent) : Decidable (entFew e) := by unfold entFew; infer_instance
theorem c_law07_Few (e : Ent) : Fc Try.prog n_ouroboroslaw07_Few [e.sv] (sb (decide (entFew e))) := by
  refine Fc.of_body tabOk q_ouroboroslaw07_Few (by kernel_rfl) (blwL_one (blw_ent 0 e)) (rfl) ?_
  conv => whnf
  repeat' (first
    | (refine bltG (by first | omega | (simp only [List.length_map] at *; omega)) ?_; conv => whnf)
    | (refine ndG (by assumption) ?_; conv => whnf)
    | (refine mulG ?_; conv => whnf)
    | (refine And.intro rfl ?_; conv => whnf)
    | (refine dsT (by assumption) ?_; conv => whnf)
    | (refine dsF (by assumption) ?_; conv => whnf)
    | (refine nsT (by assumption) ?_; conv => whnf)
    | (refine nsF (by assumption) ?_; conv => whnf)
    | (refine bsT (by assumption) ?_; conv => whnf)
    | (refine bsF (by assumption) ?_; conv => whnf)
    | (refine dsp ?_ ?_ <;> intro _ <;> conv => whnf)
    | (refine nsp ?_ ?_ <;> intro _ <;> conv => whnf)
    | (refine cnd_true (by assumption) ?_; conv => whnf)
    | (refine cnd_false (by assumption) ?_; conv => whnf)
    | (refine cnd_split ?_ ?_ <;> intro _ <;> conv => whnf)
    | (refine Cd.par tabOk (by kernel_rfl) (by kernel_rfl) ?_; conv => whnf)
    | (refine Fc.use (c_law06_Few e.val) ?_ ?_; (focus ((repeat' constructor); done)); conv => whnf)
    | (refine CallQ.of (c_law06_Few e.val) ?_ ?_; (focus ((repeat' constructor); done)); conv => whnf))
  all_goals first
    | rfl
    | (refine sbT ?_; ((try simp only [List.length_map, entFew] at *); first | omega | grind))
    | (refine sbF ?_; ((try simp only [List.length_map, entFew] at *); first | omega | grind))
    | (refine sbD ?_; ((try simp only [List.length_map, entFew] at *); first | omega | grind))
    | (refine sbB ?_; ((try simp only [List.length_map, entFew] at *); first | omega | grind))
    | (refine ivT ?_; ((try simp only [List.length_map, entFew] at *); first | omega | grind))
    | (refine ivF ?_; ((try simp only [List.length_map, entFew] at *); first | omega | grind))
    | (refine ivD ?_; ((try simp only [List.length_map, entFew] at *); first | omega | grind))
end Go.Proofs.Ytmjpidjdbofdjaa

