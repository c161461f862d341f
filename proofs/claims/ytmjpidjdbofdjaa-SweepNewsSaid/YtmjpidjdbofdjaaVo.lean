import Derived.Test.YtmjpidjdbofdjaaVr
/- The law SweepStays. -/
set_option linter.unusedVariables false
set_option linter.unusedSimpArgs false
set_option maxRecDepth 100000
set_option maxHeartbeats 1600000
namespace Go.Proofs.Ytmjpidjdbofdjaa
open Go Go.Sy
theorem stT {p : Prop} [Decidable p] (h : p) : SV.v (.bool (decide p)) = sb true := by rw [decide_eq_true h]; rfl
theorem stays_law (hw : Fc Try.prog n_ouroboroslaw19_works [] (sb true)) (a : Ar) (c n : Int) (f : Fra) : Fc Try.prog n_ouroboroslaw19_SweepStays [a.sv, iv c, iv n, f.sv] (sb true) := by
  have hfa := c_law08_Few a
  have hfe := c_law08_Entries f.es 12 (by omega)
  by_cases few : arFew a ∧ ((f.es.length : Int) ≤ 12 ∧ ∀ e ∈ f.es, entFew e)
  · obtain ⟨f1, f2⟩ := few
    have ha : a.bd := f1.bd
    have hf : f.bd := ⟨fun e he => few_bd (f2.2 e he).1, by have := f2.1; omega⟩
    have hb := mend_bd c a ha
    have h1 := c_sweep_Mend c a ha
    have h2 := c_sweep_Done a c n f ha hf
    have h3 := c_frame_Check f hf
    have h4 := c_sweep_Mend (doneTo a c n f) a ha
    -- what the plain law says
    have p1 : mend (mend c a) a = mend c a := by unfold mend; grind
    have p2 : mend (doneTo a c n f) a = doneTo a c n f := by unfold doneTo; split <;> (unfold mend; grind)
    rw [p2] at h4
    have p3 : ¬ (frOk f ∧ f.typ = 7 ∧ f.a = mend c a) → doneTo a c n f = mend c a := fun h => by unfold doneTo; exact if_neg (fun h' => h ⟨h'.1, h'.2.1, h'.2.2.1⟩)
    have p4 : doneTo a c n f = 0 ∨ doneTo a c n f = mend c a ∨ (1 ≤ n ∧ n ≤ 8 ∧ doneTo a c n f = mend c a + n) := by
      unfold doneTo
      split
      · rename_i h
        by_cases hm : mend (mend c a + n) a = 0
        · exact .inl hm
        · exact .inr (.inr ⟨h.2.2.2.1, h.2.2.2.2, by unfold mend at hm ⊢; grind⟩)
      · exact .inr (.inl rfl)
    have hwr : 1 ≤ n ∧ n ≤ 8 → IntKind.wrap .i64 (mend c a + n) = mend c a + n := fun hn => by rw [wrap_i64] <;> omega
    generalize mend c a = m at *
    generalize doneTo a c n f = d at *
    refine Fc.of_body tabOk q_ouroboroslaw19_SweepStays (by kernel_rfl) ((blwL_cons (blw_ar 0 a) (blwL_cons rfl (blwL_cons rfl (blwL_one (blw_fra 0 f)))))) (rfl) ?_
    conv => whnf
    repeat' (first
      | (refine bltG (by first | omega | (simp only [List.length_map] at *; omega)) ?_; conv => whnf)
      | (refine ndG (by assumption) ?_; conv => whnf)
      | (refine mulG ?_; conv => whnf)
      | (refine And.intro rfl ?_; conv => whnf)
      | (refine dsT (by assumption) ?_; conv => whnf)
      | (refine dsF (by assumption) ?_; conv => whnf)
      | (refine nsT (by assumption) ?_; conv => whnf)
      | (refine nsF (by assumption) ?_; conv => whnf)
      | (refine bsT (by assumption) ?_; conv => whnf)
      | (refine bsF (by assumption) ?_; conv => whnf)
      | (refine dsp ?_ ?_ <;> intro _ <;> conv => whnf)
      | (refine nsp ?_ ?_ <;> intro _ <;> conv => whnf)
      | (refine cnd_true (by assumption) ?_; conv => whnf)
      | (refine cnd_false (by assumption) ?_; conv => whnf)
      | (refine cnd_split ?_ ?_ <;> intro _ <;> conv => whnf)
      | (refine Cd.par tabOk (by kernel_rfl) (by kernel_rfl) ?_; conv => whnf)
      | (refine Fc.use (hw) ?_ ?_; (focus ((repeat' constructor); done)); conv => whnf)
      | (refine CallQ.of (hw) ?_ ?_; (focus ((repeat' constructor); done)); conv => whnf)
      | (refine Fc.use (hfa) ?_ ?_; (focus ((repeat' constructor); done)); conv => whnf)
      | (refine CallQ.of (hfa) ?_ ?_; (focus ((repeat' constructor); done)); conv => whnf)
      | (refine Fc.use (hfe) ?_ ?_; (focus ((repeat' constructor); done)); conv => whnf)
      | (refine CallQ.of (hfe) ?_ ?_; (focus ((repeat' constructor); done)); conv => whnf)
      | (refine Fc.use (h1) ?_ ?_; (focus ((repeat' constructor); done)); conv => whnf)
      | (refine CallQ.of (h1) ?_ ?_; (focus ((repeat' constructor); done)); conv => whnf)
      | (refine Fc.use (h2) ?_ ?_; (focus ((repeat' constructor); done)); conv => whnf)
      | (refine CallQ.of (h2) ?_ ?_; (focus ((repeat' constructor); done)); conv => whnf)
      | (refine Fc.use (h3) ?_ ?_; (focus ((repeat' constructor); done)); conv => whnf)
      | (refine CallQ.of (h3) ?_ ?_; (focus ((repeat' constructor); done)); conv => whnf)
      | (refine Fc.use (h4) ?_ ?_; (focus ((repeat' constructor); done)); conv => whnf)
      | (refine CallQ.of (h4) ?_ ?_; (focus ((repeat' constructor); done)); conv => whnf))
    all_goals first | rfl | (exfalso; grind) | (refine stT ?_; grind)
  · refine Fc.of_body tabOk q_ouroboroslaw19_SweepStays (by kernel_rfl) ((blwL_cons (blw_ar 0 a) (blwL_cons rfl (blwL_cons rfl (blwL_one (blw_fra 0 f)))))) (rfl) ?_
    conv => whnf
    repeat' (first
      | (refine bltG (by first | omega | (simp only [List.length_map] at *; omega)) ?_; conv => whnf)
      | (refine ndG (by assumption) ?_; conv => whnf)
      | (refine mulG ?_; conv => whnf)
      | (refine And.intro rfl ?_; conv => whnf)
      | (refine dsT (by assumption) ?_; conv => whnf)
      | (refine dsF (by assumption) ?_; conv => whnf)
      | (refine nsT (by assumption) ?_; conv => whnf)
      | (refine nsF (by assumption) ?_; conv => whnf)
      | (refine bsT (by assumption) ?_; conv => whnf)
      | (refine bsF (by assumption) ?_; conv => whnf)
      | (refine dsp ?_ ?_ <;> intro _ <;> conv => whnf)
      | (refine nsp ?_ ?_ <;> intro _ <;> conv => whnf)
      | (refine cnd_true (by assumption) ?_; conv => whnf)
      | (refine cnd_false (by assumption) ?_; conv => whnf)
      | (refine cnd_split ?_ ?_ <;> intro _ <;> conv => whnf)
      | (refine Cd.par tabOk (by kernel_rfl) (by kernel_rfl) ?_; conv => whnf)
      | (refine Fc.use (hw) ?_ ?_; (focus ((repeat' constructor); done)); conv => whnf)
      | (refine CallQ.of (hw) ?_ ?_; (focus ((repeat' constructor); done)); conv => whnf)
      | (refine Fc.use (hfa) ?_ ?_; (focus ((repeat' constructor); done)); conv => whnf)
      | (refine CallQ.of (hfa) ?_ ?_; (focus ((repeat' constructor); done)); conv => whnf)
      | (refine Fc.use (hfe) ?_ ?_; (focus ((repeat' constructor); done)); conv => whnf)
      | (refine CallQ.of (hfe) ?_ ?_; (focus ((repeat' constructor); done)); conv => whnf))
    all_goals first | rfl | (exfalso; grind) | (refine stT ?_; grind)
end Go.Proofs.Ytmjpidjdbofdjaa

