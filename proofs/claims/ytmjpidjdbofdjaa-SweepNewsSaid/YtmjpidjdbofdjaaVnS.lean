import Derived.Test.YtmjpidjdbofdjaaVn
import Derived.Test.YtmjpidjdbofdjaaVjS
/- Contracts: sweeps. -/
set_option linter.unusedVariables false
set_option linter.unusedSimpArgs false
set_option maxRecDepth 100000
set_option maxHeartbeats 1600000
namespace Go.Proofs.Ytmjpidjdbofdjaa
open Go Go.Sy
theorem c_tells (f : Fra) (hf : f.bd) (n : Int) : Fc Try.prog n_sweep_letter_tells [f.sv, iv n] (.tup [iv f.a, sb (decide (frOk f ∧ f.typ = n))]) := by
  refine Fc.of_body tabOk q_sweep_letter_tells (by kernel_rfl) ((blwL_cons (blw_fra 0 f) rfl)) (rfl) ?_
  conv => whnf
  repeat' (first
    | (refine bltG (by first | omega | (simp only [List.length_map] at *; omega)) ?_; conv => whnf)
    | (refine ndG (by assumption) ?_; conv => whnf)
    | (refine mulG ?_; conv => whnf)
    | (refine And.intro rfl ?_; conv => whnf)
    | (refine dsT (by assumption) ?_; conv => whnf)
    | (refine dsF (by assumption) ?_; conv => whnf)
    | (refine nsT (by assumption) ?_; conv => whnf)
    | (refine nsF (by assumption) ?_; conv => whnf)
    | (refine bsT (by assumption) ?_; conv => whnf)
    | (refine bsF (by assumption) ?_; conv => whnf)
    | (refine dsp ?_ ?_ <;> intro _ <;> conv => whnf)
    | (refine nsp ?_ ?_ <;> intro _ <;> conv => whnf)
    | (refine cnd_true (by assumption) ?_; conv => whnf)
    | (refine cnd_false (by assumption) ?_; conv => whnf)
    | (refine cnd_split ?_ ?_ <;> intro _ <;> conv => whnf)
    | (refine Cd.par tabOk (by kernel_rfl) (by kernel_rfl) ?_; conv => whnf)
    | (refine Fc.use (c_frame_Check f hf) ?_ ?_; (focus ((repeat' constructor); done)); conv => whnf)
    | (refine CallQ.of (c_frame_Check f hf) ?_ ?_; (focus ((repeat' constructor); done)); conv => whnf))
  · have h : frOk f := by
      by_cases h : frOk f
      · exact h
      · rw [if_neg h] at *; omega
    exact ⟨sbD ⟨fun ht => ⟨h, ht⟩, fun ht => ht.2⟩, by first | trivial | rfl⟩
  · have h : ¬ frOk f := fun h => by rw [if_pos h] at *; omega
    exact ⟨sbF (fun ht => h ht.1), by first | trivial | rfl⟩
/-- Where the one that sends goes on. -/
def doneTo (a : Ar) (c n : Int) (f : Fra) : Int := if frOk f ∧ f.typ = 7 ∧ f.a = mend c a ∧ 1 ≤ n ∧ n ≤ 8 then mend (mend c a + n) a else mend c a
theorem mend_bd (c : Int) (a : Ar) (ha : a.bd) : 0 ≤ mend c a ∧ mend c a < 2 ^ 40 := by
  have := ha.2.1
  unfold mend
  split <;> omega
theorem c_sweep_Done (a : Ar) (c n : Int) (f : Fra) (ha : a.bd) (hf : f.bd) : Fc Try.prog n_sweep_Done [a.sv, iv c, iv n, f.sv] (iv (doneTo a c n f)) := by
  have hb := mend_bd c a ha
  have h1 := c_sweep_Mend c a ha
  have hm := c_sweep_Mend (mend c a + n) a ha
  unfold doneTo
  generalize mend c a = m at *
  generalize mend (m + n) a = m2 at *
  have ht := c_tells f hf 7
  have hmay := c_sweep_may n
  have hwr : 1 ≤ n ∧ n ≤ 8 → IntKind.wrap .i64 (m + n) = m + n := fun hn => by rw [wrap_i64] <;> omega
  have hm' : 1 ≤ n ∧ n ≤ 8 → Fc Try.prog n_sweep_Mend [.v (.int .i64 (IntKind.wrap .i64 (m + n))), a.sv] (iv m2) := fun hn => by rw [hwr hn]; exact hm
  by_cases hn : 1 ≤ n ∧ n ≤ 8
  · have hm2 := hm' hn
    refine Fc.of_body tabOk q_sweep_Done (by kernel_rfl) ((blwL_cons (blw_ar 0 a) (blwL_cons rfl (blwL_cons rfl (blwL_one (blw_fra 0 f)))))) (rfl) ?_
    conv => whnf
    repeat' (first
      | (refine bltG (by first | omega | (simp only [List.length_map] at *; omega)) ?_; conv => whnf)
      | (refine ndG (by assumption) ?_; conv => whnf)
      | (refine mulG ?_; conv => whnf)
      | (refine And.intro rfl ?_; conv => whnf)
      | (refine dsT (by assumption) ?_; conv => whnf)
      | (refine dsF (by assumption) ?_; conv => whnf)
      | (refine nsT (by assumption) ?_; conv => whnf)
      | (refine nsF (by assumption) ?_; conv => whnf)
      | (refine bsT (by assumption) ?_; conv => whnf)
      | (refine bsF (by assumption) ?_; conv => whnf)
      | (refine dsp ?_ ?_ <;> intro _ <;> conv => whnf)
      | (refine nsp ?_ ?_ <;> intro _ <;> conv => whnf)
      | (refine cnd_true (by assumption) ?_; conv => whnf)
      | (refine cnd_false (by assumption) ?_; conv => whnf)
      | (refine cnd_split ?_ ?_ <;> intro _ <;> conv => whnf)
      | (refine Cd.par tabOk (by kernel_rfl) (by kernel_rfl) ?_; conv => whnf)
      | (refine Fc.use (h1) ?_ ?_; (focus ((repeat' constructor); done)); conv => whnf)
      | (refine CallQ.of (h1) ?_ ?_; (focus ((repeat' constructor); done)); conv => whnf)
      | (refine Exists.intro n_sweep_letter_tells (And.intro ?_ ?_); (focus kernel_rfl); conv => whnf)
      | (refine Fc.use (ht) ?_ ?_; (focus ((repeat' constructor); done)); conv => whnf)
      | (refine CallQ.of (ht) ?_ ?_; (focus ((repeat' constructor); done)); conv => whnf)
      | (refine Fc.use (hmay) ?_ ?_; (focus ((repeat' constructor); done)); conv => whnf)
      | (refine CallQ.of (hmay) ?_ ?_; (focus ((repeat' constructor); done)); conv => whnf))
    · exact ivF (fun h => by grind)
    · exact ivF (fun h => by grind)
    · repeat' (first
        | (refine bltG (by first | omega | (simp only [List.length_map] at *; omega)) ?_; conv => whnf)
        | (refine ndG (by assumption) ?_; conv => whnf)
        | (refine mulG ?_; conv => whnf)
        | (refine And.intro rfl ?_; conv => whnf)
        | (refine dsT (by assumption) ?_; conv => whnf)
        | (refine dsF (by assumption) ?_; conv => whnf)
        | (refine nsT (by assumption) ?_; conv => whnf)
        | (refine nsF (by assumption) ?_; conv => whnf)
        | (refine bsT (by assumption) ?_; conv => whnf)
        | (refine bsF (by assumption) ?_; conv => whnf)
        | (refine dsp ?_ ?_ <;> intro _ <;> conv => whnf)
        | (refine nsp ?_ ?_ <;> intro _ <;> conv => whnf)
        | (refine cnd_true (by assumption) ?_; conv => whnf)
        | (refine cnd_false (by assumption) ?_; conv => whnf)
        | (refine cnd_split ?_ ?_ <;> intro _ <;> conv => whnf)
        | (refine Cd.par tabOk (by kernel_rfl) (by kernel_rfl) ?_; conv => whnf)
        | (refine Fc.use (hm2) ?_ ?_; (focus ((repeat' constructor); done)); conv => whnf)
        | (refine CallQ.of (hm2) ?_ ?_; (focus ((repeat' constructor); done)); conv => whnf))
      exact ivT (by grind)
  · refine Fc.of_body tabOk q_sweep_Done (by kernel_rfl) ((blwL_cons (blw_ar 0 a) (blwL_cons rfl (blwL_cons rfl (blwL_one (blw_fra 0 f)))))) (rfl) ?_
    conv => whnf
    repeat' (first
      | (refine bltG (by first | omega | (simp only [List.length_map] at *; omega)) ?_; conv => whnf)
      | (refine ndG (by assumption) ?_; conv => whnf)
      | (refine mulG ?_; conv => whnf)
      | (refine And.intro rfl ?_; conv => whnf)
      | (refine dsT (by assumption) ?_; conv => whnf)
      | (refine dsF (by assumption) ?_; conv => whnf)
      | (refine nsT (by assumption) ?_; conv => whnf)
      | (refine nsF (by assumption) ?_; conv => whnf)
      | (refine bsT (by assumption) ?_; conv => whnf)
      | (refine bsF (by assumption) ?_; conv => whnf)
      | (refine dsp ?_ ?_ <;> intro _ <;> conv => whnf)
      | (refine nsp ?_ ?_ <;> intro _ <;> conv => whnf)
      | (refine cnd_true (by assumption) ?_; conv => whnf)
      | (refine cnd_false (by assumption) ?_; conv => whnf)
      | (refine cnd_split ?_ ?_ <;> intro _ <;> conv => whnf)
      | (refine Cd.par tabOk (by kernel_rfl) (by kernel_rfl) ?_; conv => whnf)
      | (refine Fc.use (h1) ?_ ?_; (focus ((repeat' constructor); done)); conv => whnf)
      | (refine CallQ.of (h1) ?_ ?_; (focus ((repeat' constructor); done)); conv => whnf)
      | (refine Exists.intro n_sweep_letter_tells (And.intro ?_ ?_); (focus kernel_rfl); conv => whnf)
      | (refine Fc.use (ht) ?_ ?_; (focus ((repeat' constructor); done)); conv => whnf)
      | (refine CallQ.of (ht) ?_ ?_; (focus ((repeat' constructor); done)); conv => whnf)
      | (refine Fc.use (hmay) ?_ ?_; (focus ((repeat' constructor); done)); conv => whnf)
      | (refine CallQ.of (hmay) ?_ ?_; (focus ((repeat' constructor); done)); conv => whnf))
    all_goals exact ivF (fun h => by grind)
end Go.Proofs.Ytmjpidjdbofdjaa

