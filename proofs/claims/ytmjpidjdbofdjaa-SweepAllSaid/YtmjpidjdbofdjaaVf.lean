import Derived.Test.YtmjpidjdbofdjaaVe
/- Contracts: values, entries. -/
set_option linter.unusedVariables false
set_option linter.unusedSimpArgs false
set_option maxRecDepth 100000
namespace Go.Proofs.Ytmjpidjdbofdjaa
open Go Go.Sy
theorem latOf1 {k : Int} (h : k = 1) : Fc Try.prog n_value_kinds [iv k] (.tup [.ifc t_value_register (.agg []), sb true]) := by
  have := c_value_kinds k; subst h; exact this
theorem latOf2 {k : Int} (h : k = 2) : Fc Try.prog n_value_kinds [iv k] (.tup [.ifc t_value_counter (.agg []), sb true]) := by
  have := c_value_kinds k; subst h; exact this
theorem latOf3 {k : Int} (h : k = 3) : Fc Try.prog n_value_kinds [iv k] (.tup [.ifc t_value_flags (.agg []), sb true]) := by
  have := c_value_kinds k; subst h; exact this
theorem latOf0 {k : Int} (h1 : k ≠ 1) (h2 : k ≠ 2) (h3 : k ≠ 3) : Fc Try.prog n_value_kinds [iv k] (.tup [.v .nilIface, sb false]) := by
  have := c_value_kinds k
  rw [show latOf k = .v .nilIface by unfold latOf; rw [if_neg h1, if_neg h2, if_neg h3], show decide (1 ≤ k ∧ k ≤ 3) = false from decide_eq_false (by omega)] at this
  exact this
def en (b : Prop) [Decidable b] : SV := iv (if b then 0 else 2)
theorem enF {p : Prop} [Decidable p] (h : ¬ p) : SV.v (.int .i64 2) = en p := by unfold en; rw [if_neg h]; rfl
theorem enT {p : Prop} [Decidable p] (h : p) : SV.v (.int .i64 0) = en p := by unfold en; rw [if_pos h]; rfl
theorem c_value_Check (v : Val) (hv : v.bd) : Fc Try.prog n_value_Check [v.sv] (en (valOk v)) := by
  by_cases h1 : v.kind = 1
  · refine Fc.of_body tabOk q_value_Check (by kernel_rfl) ((blwL_one (blw_val 0 v))) (rfl) ?_
    conv => whnf
    repeat' (first
      | (refine bltG (by first | omega | (simp only [List.length_map] at *; omega)) ?_; conv => whnf)
      | (refine ndG (by assumption) ?_; conv => whnf)
      | (refine mulG ?_; conv => whnf)
      | (refine And.intro rfl ?_; conv => whnf)
      | (refine dsT (by assumption) ?_; conv => whnf)
      | (refine dsF (by assumption) ?_; conv => whnf)
      | (refine nsT (by assumption) ?_; conv => whnf)
      | (refine nsF (by assumption) ?_; conv => whnf)
      | (refine bsT (by assumption) ?_; conv => whnf)
      | (refine bsF (by assumption) ?_; conv => whnf)
      | (refine dsp ?_ ?_ <;> intro _ <;> conv => whnf)
      | (refine nsp ?_ ?_ <;> intro _ <;> conv => whnf)
      | (refine cnd_true (by assumption) ?_; conv => whnf)
      | (refine cnd_false (by assumption) ?_; conv => whnf)
      | (refine cnd_split ?_ ?_ <;> intro _ <;> conv => whnf)
      | (refine Cd.par tabOk (by kernel_rfl) (by kernel_rfl) ?_; conv => whnf)
      | (refine Fc.use (latOf1 h1) ?_ ?_; (focus ((repeat' constructor); done)); conv => whnf)
      | (refine CallQ.of (latOf1 h1) ?_ ?_; (focus ((repeat' constructor); done)); conv => whnf)
      | (refine Exists.intro n_value_register_is (And.intro ?_ ?_); (focus kernel_rfl); conv => whnf)
      | (refine Fc.use (c_register_is v hv) ?_ ?_; (focus ((repeat' constructor); done)); conv => whnf)
      | (refine CallQ.of (c_register_is v hv) ?_ ?_; (focus ((repeat' constructor); done)); conv => whnf))
    all_goals unfold en
    all_goals first
      | rfl
      | (refine sbT ?_; ((try simp only [List.length_map, valOk] at *); first | omega | grind))
      | (refine sbF ?_; ((try simp only [List.length_map, valOk] at *); first | omega | grind))
      | (refine sbD ?_; ((try simp only [List.length_map, valOk] at *); first | omega | grind))
      | (refine sbB ?_; ((try simp only [List.length_map, valOk] at *); first | omega | grind))
      | (refine ivT ?_; ((try simp only [List.length_map, valOk] at *); first | omega | grind))
      | (refine ivF ?_; ((try simp only [List.length_map, valOk] at *); first | omega | grind))
      | (refine ivD ?_; ((try simp only [List.length_map, valOk] at *); first | omega | grind))
  by_cases h2 : v.kind = 2
  · refine Fc.of_body tabOk q_value_Check (by kernel_rfl) ((blwL_one (blw_val 0 v))) (rfl) ?_
    conv => whnf
    repeat' (first
      | (refine bltG (by first | omega | (simp only [List.length_map] at *; omega)) ?_; conv => whnf)
      | (refine ndG (by assumption) ?_; conv => whnf)
      | (refine mulG ?_; conv => whnf)
      | (refine And.intro rfl ?_; conv => whnf)
      | (refine dsT (by assumption) ?_; conv => whnf)
      | (refine dsF (by assumption) ?_; conv => whnf)
      | (refine nsT (by assumption) ?_; conv => whnf)
      | (refine nsF (by assumption) ?_; conv => whnf)
      | (refine bsT (by assumption) ?_; conv => whnf)
      | (refine bsF (by assumption) ?_; conv => whnf)
      | (refine dsp ?_ ?_ <;> intro _ <;> conv => whnf)
      | (refine nsp ?_ ?_ <;> intro _ <;> conv => whnf)
      | (refine cnd_true (by assumption) ?_; conv => whnf)
      | (refine cnd_false (by assumption) ?_; conv => whnf)
      | (refine cnd_split ?_ ?_ <;> intro _ <;> conv => whnf)
      | (refine Cd.par tabOk (by kernel_rfl) (by kernel_rfl) ?_; conv => whnf)
      | (refine Fc.use (latOf2 h2) ?_ ?_; (focus ((repeat' constructor); done)); conv => whnf)
      | (refine CallQ.of (latOf2 h2) ?_ ?_; (focus ((repeat' constructor); done)); conv => whnf)
      | (refine Exists.intro n_value_counter_is (And.intro ?_ ?_); (focus kernel_rfl); conv => whnf)
      | (refine Fc.use (c_counter_is v hv) ?_ ?_; (focus ((repeat' constructor); done)); conv => whnf)
      | (refine CallQ.of (c_counter_is v hv) ?_ ?_; (focus ((repeat' constructor); done)); conv => whnf))
    all_goals unfold en
    all_goals first
      | rfl
      | (refine sbT ?_; ((try simp only [List.length_map, valOk] at *); first | omega | grind))
      | (refine sbF ?_; ((try simp only [List.length_map, valOk] at *); first | omega | grind))
      | (refine sbD ?_; ((try simp only [List.length_map, valOk] at *); first | omega | grind))
      | (refine sbB ?_; ((try simp only [List.length_map, valOk] at *); first | omega | grind))
      | (refine ivT ?_; ((try simp only [List.length_map, valOk] at *); first | omega | grind))
      | (refine ivF ?_; ((try simp only [List.length_map, valOk] at *); first | omega | grind))
      | (refine ivD ?_; ((try simp only [List.length_map, valOk] at *); first | omega | grind))
  by_cases h3 : v.kind = 3
  · refine Fc.of_body tabOk q_value_Check (by kernel_rfl) ((blwL_one (blw_val 0 v))) (rfl) ?_
    conv => whnf
    repeat' (first
      | (refine bltG (by first | omega | (simp only [List.length_map] at *; omega)) ?_; conv => whnf)
      | (refine ndG (by assumption) ?_; conv => whnf)
      | (refine mulG ?_; conv => whnf)
      | (refine And.intro rfl ?_; conv => whnf)
      | (refine dsT (by assumption) ?_; conv => whnf)
      | (refine dsF (by assumption) ?_; conv => whnf)
      | (refine nsT (by assumption) ?_; conv => whnf)
      | (refine nsF (by assumption) ?_; conv => whnf)
      | (refine bsT (by assumption) ?_; conv => whnf)
      | (refine bsF (by assumption) ?_; conv => whnf)
      | (refine dsp ?_ ?_ <;> intro _ <;> conv => whnf)
      | (refine nsp ?_ ?_ <;> intro _ <;> conv => whnf)
      | (refine cnd_true (by assumption) ?_; conv => whnf)
      | (refine cnd_false (by assumption) ?_; conv => whnf)
      | (refine cnd_split ?_ ?_ <;> intro _ <;> conv => whnf)
      | (refine Cd.par tabOk (by kernel_rfl) (by kernel_rfl) ?_; conv => whnf)
      | (refine Fc.use (latOf3 h3) ?_ ?_; (focus ((repeat' constructor); done)); conv => whnf)
      | (refine CallQ.of (latOf3 h3) ?_ ?_; (focus ((repeat' constructor); done)); conv => whnf)
      | (refine Exists.intro n_value_flags_is (And.intro ?_ ?_); (focus kernel_rfl); conv => whnf)
      | (refine Fc.use (c_flags_is v hv) ?_ ?_; (focus ((repeat' constructor); done)); conv => whnf)
      | (refine CallQ.of (c_flags_is v hv) ?_ ?_; (focus ((repeat' constructor); done)); conv => whnf))
    all_goals unfold en
    all_goals first
      | rfl
      | (refine sbT ?_; ((try simp only [List.length_map, valOk] at *); first | omega | grind))
      | (refine sbF ?_; ((try simp only [List.length_map, valOk] at *); first | omega | grind))
      | (refine sbD ?_; ((try simp only [List.length_map, valOk] at *); first | omega | grind))
      | (refine sbB ?_; ((try simp only [List.length_map, valOk] at *); first | omega | grind))
      | (refine ivT ?_; ((try simp only [List.length_map, valOk] at *); first | omega | grind))
      | (refine ivF ?_; ((try simp only [List.length_map, valOk] at *); first | omega | grind))
      | (refine ivD ?_; ((try simp only [List.length_map, valOk] at *); first | omega | grind))
  · refine Fc.of_body tabOk q_value_Check (by kernel_rfl) ((blwL_one (blw_val 0 v))) (rfl) ?_
    conv => whnf
    repeat' (first
      | (refine bltG (by first | omega | (simp only [List.length_map] at *; omega)) ?_; conv => whnf)
      | (refine ndG (by assumption) ?_; conv => whnf)
      | (refine mulG ?_; conv => whnf)
      | (refine And.intro rfl ?_; conv => whnf)
      | (refine dsT (by assumption) ?_; conv => whnf)
      | (refine dsF (by assumption) ?_; conv => whnf)
      | (refine nsT (by assumption) ?_; conv => whnf)
      | (refine nsF (by assumption) ?_; conv => whnf)
      | (refine bsT (by assumption) ?_; conv => whnf)
      | (refine bsF (by assumption) ?_; conv => whnf)
      | (refine dsp ?_ ?_ <;> intro _ <;> conv => whnf)
      | (refine nsp ?_ ?_ <;> intro _ <;> conv => whnf)
      | (refine cnd_true (by assumption) ?_; conv => whnf)
      | (refine cnd_false (by assumption) ?_; conv => whnf)
      | (refine cnd_split ?_ ?_ <;> intro _ <;> conv => whnf)
      | (refine Cd.par tabOk (by kernel_rfl) (by kernel_rfl) ?_; conv => whnf)
      | (refine Fc.use (latOf0 h1 h2 h3) ?_ ?_; (focus ((repeat' constructor); done)); conv => whnf)
      | (refine CallQ.of (latOf0 h1 h2 h3) ?_ ?_; (focus ((repeat' constructor); done)); conv => whnf))
    all_goals unfold en
    all_goals first
      | rfl
      | (refine sbT ?_; ((try simp only [List.length_map, valOk] at *); first | omega | grind))
      | (refine sbF ?_; ((try simp only [List.length_map, valOk] at *); first | omega | grind))
      | (refine sbD ?_; ((try simp only [List.length_map, valOk] at *); first | omega | grind))
      | (refine sbB ?_; ((try simp only [List.length_map, valOk] at *); first | omega | grind))
      | (refine ivT ?_; ((try simp only [List.length_map, valOk] at *); first | omega | grind))
      | (refine ivF ?_; ((try simp only [List.length_map, valOk] at *); first | omega | grind))
      | (refine ivD ?_; ((try simp only [List.length_map, valOk] at *); first | omega | grind))
def Ent.bd (e : Ent) : Prop := e.val.bd
def entOk (e : Ent) : Prop := e.key ≠ ⟨#[]⟩ ∧ e.key.size ≤ 8 ∧ valOk e.val
instance (e : Ent) : Decidable (entOk e) := by unfold entOk; infer_instance
theorem c_entry_Check (e : Ent) (he : e.bd) : Fc Try.prog n_entry_Check [e.sv] (en (entOk e)) := by
  refine Fc.of_body tabOk q_entry_Check (by kernel_rfl) ((blwL_one (blw_ent 0 e))) (rfl) ?_
  conv => whnf
  repeat' (first
    | (refine bltG (by first | omega | (simp only [List.length_map] at *; omega)) ?_; conv => whnf)
    | (refine ndG (by assumption) ?_; conv => whnf)
    | (refine mulG ?_; conv => whnf)
    | (refine And.intro rfl ?_; conv => whnf)
    | (refine dsT (by assumption) ?_; conv => whnf)
    | (refine dsF (by assumption) ?_; conv => whnf)
    | (refine nsT (by assumption) ?_; conv => whnf)
    | (refine nsF (by assumption) ?_; conv => whnf)
    | (refine bsT (by assumption) ?_; conv => whnf)
    | (refine bsF (by assumption) ?_; conv => whnf)
    | (refine dsp ?_ ?_ <;> intro _ <;> conv => whnf)
    | (refine nsp ?_ ?_ <;> intro _ <;> conv => whnf)
    | (refine cnd_true (by assumption) ?_; conv => whnf)
    | (refine cnd_false (by assumption) ?_; conv => whnf)
    | (refine cnd_split ?_ ?_ <;> intro _ <;> conv => whnf)
    | (refine Cd.par tabOk (by kernel_rfl) (by kernel_rfl) ?_; conv => whnf)
    | (refine Fc.use (c_value_Check e.val he) ?_ ?_; (focus ((repeat' constructor); done)); conv => whnf)
    | (refine CallQ.of (c_value_Check e.val he) ?_ ?_; (focus ((repeat' constructor); done)); conv => whnf))
  all_goals unfold en
  all_goals first
    | rfl
    | (refine sbT ?_; ((try simp only [List.length_map, entOk] at *); first | omega | grind))
    | (refine sbF ?_; ((try simp only [List.length_map, entOk] at *); first | omega | grind))
    | (refine sbD ?_; ((try simp only [List.length_map, entOk] at *); first | omega | grind))
    | (refine sbB ?_; ((try simp only [List.length_map, entOk] at *); first | omega | grind))
    | (refine ivT ?_; ((try simp only [List.length_map, entOk] at *); first | omega | grind))
    | (refine ivF ?_; ((try simp only [List.length_map, entOk] at *); first | omega | grind))
    | (refine ivD ?_; ((try simp only [List.length_map, entOk] at *); first | omega | grind))
end Go.Proofs.Ytmjpidjdbofdjaa

