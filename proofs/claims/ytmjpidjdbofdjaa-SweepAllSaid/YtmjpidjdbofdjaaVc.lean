import Derived.Test.YtmjpidjdbofdjaaVb
/- Contracts: values. -/
set_option linter.unusedVariables false
set_option linter.unusedSimpArgs false
set_option maxRecDepth 100000
namespace Go.Proofs.Ytmjpidjdbofdjaa
open Go Go.Sy
/-- Bounds that every value of the laws has. -/
def Val.bd (v : Val) : Prop := v.plus.length < 2 ^ 40 ∧ v.minus.length < 2 ^ 40
theorem Val.ext_iff (a b : Val) : a = b ↔ a.kind = b.kind ∧ a.time = b.time ∧ a.node = b.node ∧ a.dead = b.dead ∧ a.text = b.text ∧ a.plus = b.plus ∧ a.minus = b.minus ∧ a.flags = b.flags := by
  cases a; cases b; simp
theorem c_value_Same (a b : Val) (ha : a.bd) : Fc Try.prog n_value_Same [a.sv, b.sv] (sb (decide (a = b))) := by
  obtain ⟨h1, h2⟩ := ha
  refine Fc.of_body tabOk q_value_Same (by kernel_rfl) ((blwL_cons (blw_val 0 a) (blwL_one (blw_val 0 b)))) (rfl) ?_
  conv => whnf
  rw [show decide (a = b) = decide (a.kind = b.kind ∧ a.time = b.time ∧ a.node = b.node ∧ a.dead = b.dead ∧ a.text = b.text ∧ a.plus = b.plus ∧ a.minus = b.minus ∧ a.flags = b.flags) from decide_eq_decide.2 (Val.ext_iff a b)]
  repeat' (first
    | (refine bltG (by first | omega | (simp only [List.length_map] at *; omega)) ?_; conv => whnf)
    | (refine ndG (by assumption) ?_; conv => whnf)
    | (refine mulG ?_; conv => whnf)
    | (refine And.intro rfl ?_; conv => whnf)
    | (refine dsT (by assumption) ?_; conv => whnf)
    | (refine dsF (by assumption) ?_; conv => whnf)
    | (refine nsT (by assumption) ?_; conv => whnf)
    | (refine nsF (by assumption) ?_; conv => whnf)
    | (refine bsT (by assumption) ?_; conv => whnf)
    | (refine bsF (by assumption) ?_; conv => whnf)
    | (refine dsp ?_ ?_ <;> intro _ <;> conv => whnf)
    | (refine nsp ?_ ?_ <;> intro _ <;> conv => whnf)
    | (refine cnd_true (by assumption) ?_; conv => whnf)
    | (refine cnd_false (by assumption) ?_; conv => whnf)
    | (refine cnd_split ?_ ?_ <;> intro _ <;> conv => whnf)
    | (refine Cd.par tabOk (by kernel_rfl) (by kernel_rfl) ?_; conv => whnf)
    | (refine Fc.use (c_slices_Equal_int a.plus b.plus (by omega)) ?_ ?_; (focus ((repeat' constructor); done)); conv => whnf)
    | (refine CallQ.of (c_slices_Equal_int a.plus b.plus (by omega)) ?_ ?_; (focus ((repeat' constructor); done)); conv => whnf)
    | (refine Fc.use (c_slices_Equal_int a.minus b.minus (by omega)) ?_ ?_; (focus ((repeat' constructor); done)); conv => whnf)
    | (refine CallQ.of (c_slices_Equal_int a.minus b.minus (by omega)) ?_ ?_; (focus ((repeat' constructor); done)); conv => whnf))
  all_goals first
    | rfl
    | (refine sbT ?_; ((try simp only [List.length_map] at *); first | omega | grind))
    | (refine sbF ?_; ((try simp only [List.length_map] at *); first | omega | grind))
    | (refine sbD ?_; ((try simp only [List.length_map] at *); first | omega | grind))
    | (refine sbB ?_; ((try simp only [List.length_map] at *); first | omega | grind))
    | (refine ivT ?_; ((try simp only [List.length_map] at *); first | omega | grind))
    | (refine ivF ?_; ((try simp only [List.length_map] at *); first | omega | grind))
    | (refine ivD ?_; ((try simp only [List.length_map] at *); first | omega | grind))
/-- The lattice of a kind. -/
def latOf (k : Int) : SV := if k = 1 then .ifc t_value_register (.agg []) else if k = 2 then .ifc t_value_counter (.agg []) else if k = 3 then .ifc t_value_flags (.agg []) else .v .nilIface
theorem c_value_kinds (k : Int) : Fc Try.prog n_value_kinds [iv k] (.tup [latOf k, sb (decide (1 ≤ k ∧ k ≤ 3))]) := by
  refine Fc.of_body tabOk q_value_kinds (by kernel_rfl) (rfl) (by unfold latOf; (repeat' split) <;> rfl) ?_
  conv => whnf
  repeat' (first
    | (refine bltG (by first | omega | (simp only [List.length_map] at *; omega)) ?_; conv => whnf)
    | (refine ndG (by assumption) ?_; conv => whnf)
    | (refine mulG ?_; conv => whnf)
    | (refine And.intro rfl ?_; conv => whnf)
    | (refine dsT (by assumption) ?_; conv => whnf)
    | (refine dsF (by assumption) ?_; conv => whnf)
    | (refine nsT (by assumption) ?_; conv => whnf)
    | (refine nsF (by assumption) ?_; conv => whnf)
    | (refine bsT (by assumption) ?_; conv => whnf)
    | (refine bsF (by assumption) ?_; conv => whnf)
    | (refine dsp ?_ ?_ <;> intro _ <;> conv => whnf)
    | (refine nsp ?_ ?_ <;> intro _ <;> conv => whnf)
    | (refine cnd_true (by assumption) ?_; conv => whnf)
    | (refine cnd_false (by assumption) ?_; conv => whnf)
    | (refine cnd_split ?_ ?_ <;> intro _ <;> conv => whnf)
    | (refine Cd.par tabOk (by kernel_rfl) (by kernel_rfl) ?_; conv => whnf))
  · subst k; (repeat' constructor); done
  · subst k; (repeat' constructor); done
  · subst k; (repeat' constructor); done
  · rw [show latOf k = .v .nilIface by unfold latOf; rw [if_neg ‹_›, if_neg ‹_›, if_neg ‹_›]]
    rw [show decide (1 ≤ k ∧ k ≤ 3) = false from decide_eq_false (by omega)]
    repeat' constructor
end Go.Proofs.Ytmjpidjdbofdjaa

