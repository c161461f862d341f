import Derived.Test.YtmjpidjdbofdjaaVm
/- Contracts: frames, sweeps. -/
set_option linter.unusedVariables false
set_option linter.unusedSimpArgs false
set_option maxRecDepth 100000
set_option maxHeartbeats 1600000
namespace Go.Proofs.Ytmjpidjdbofdjaa
open Go Go.Sy
theorem c_frame_Check0 (f : Fra) (hf : f.bd) (ht : f.typ < 1 ∨ 7 < f.typ) : Fc Try.prog n_frame_Check [f.sv] (en False) := by
  obtain ⟨hb, hl⟩ := hf
  have n1 : ¬ f.typ = 1 := by omega
  have n2 : ¬ f.typ = 2 := by omega
  have n3 : ¬ f.typ = 3 := by omega
  have n4 : ¬ f.typ = 4 := by omega
  have n5 : ¬ f.typ = 5 := by omega
  have n6 : ¬ f.typ = 6 := by omega
  have n7 : ¬ f.typ = 7 := by omega
  refine Fc.of_body tabOk q_frame_Check (by kernel_rfl) ((blwL_one (blw_fra 0 f))) (rfl) ?_
  conv => whnf
  refine Cd.parT tabOk (by kernel_rfl) [0, 7, 8] (by kernel_rfl) ?_
  conv => whnf
  repeat' (first
    | (refine bltG (by first | omega | (simp only [List.length_map] at *; omega)) ?_; conv => whnf)
    | (refine ndG (by assumption) ?_; conv => whnf)
    | (refine mulG ?_; conv => whnf)
    | (refine And.intro rfl ?_; conv => whnf)
    | (refine dsT (by assumption) ?_; conv => whnf)
    | (refine dsF (by assumption) ?_; conv => whnf)
    | (refine nsT (by assumption) ?_; conv => whnf)
    | (refine nsF (by assumption) ?_; conv => whnf)
    | (refine bsT (by assumption) ?_; conv => whnf)
    | (refine bsF (by assumption) ?_; conv => whnf)
    | (refine dsp ?_ ?_ <;> intro _ <;> conv => whnf)
    | (refine nsp ?_ ?_ <;> intro _ <;> conv => whnf)
    | (refine cnd_true (by assumption) ?_; conv => whnf)
    | (refine cnd_false (by assumption) ?_; conv => whnf)
    | (refine cnd_split ?_ ?_ <;> intro _ <;> conv => whnf)
    | (refine Cd.par tabOk (by kernel_rfl) (by kernel_rfl) ?_; conv => whnf)
    | rfl
    | exact True.intro
    | (refine And.intro ?_ ?_ <;> conv => whnf)
    | (refine Tr.of_body tabOk q_frame_forms (by kernel_rfl) ?_; conv => whnf)
    | (refine Fc.use (c_digest_Put f.l0 f.l1 f.l2 f.l3) ?_ ?_; (focus ((repeat' constructor); done)); conv => whnf)
    | (refine CallQ.of (c_digest_Put f.l0 f.l1 f.l2 f.l3) ?_ ?_; (focus ((repeat' constructor); done)); conv => whnf)
    | (refine Fc.use (c_odd_frame f.es hb (by omega)) ?_ ?_; (focus ((repeat' constructor); done)); conv => whnf)
    | (refine CallQ.of (c_odd_frame f.es hb (by omega)) ?_ ?_; (focus ((repeat' constructor); done)); conv => whnf)
    | (refine agg4 ?_; conv => whnf))
def frOk (f : Fra) : Prop := (f.typ = 1 ∧ fr1 f) ∨ (f.typ = 2 ∧ fr2 f) ∨ (f.typ = 3 ∧ fr3 f) ∨ (f.typ = 4 ∧ fr4 f) ∨ (f.typ = 5 ∧ fr5 f) ∨ (f.typ = 6 ∧ fr6 f) ∨ (f.typ = 7 ∧ fr7 f)
instance (f : Fra) : Decidable (frOk f) := by unfold frOk; infer_instance
theorem en_congr {p q : Prop} [Decidable p] [Decidable q] (h : p ↔ q) : en p = en q := by
  unfold en; by_cases hp : p
  · rw [if_pos hp, if_pos (h.1 hp)]
  · rw [if_neg hp, if_neg (fun hq => hp (h.2 hq))]
theorem c_frame_Check (f : Fra) (hf : f.bd) : Fc Try.prog n_frame_Check [f.sv] (en (frOk f)) := by
  by_cases h1 : f.typ = 1
  · rw [en_congr (show frOk f ↔ fr1 f by unfold frOk; constructor <;> intro h <;> grind)]; exact c_frame_Check1 f hf h1
  by_cases h2 : f.typ = 2
  · rw [en_congr (show frOk f ↔ fr2 f by unfold frOk; constructor <;> intro h <;> grind)]; exact c_frame_Check2 f hf h2
  by_cases h3 : f.typ = 3
  · rw [en_congr (show frOk f ↔ fr3 f by unfold frOk; constructor <;> intro h <;> grind)]; exact c_frame_Check3 f hf h3
  by_cases h4 : f.typ = 4
  · rw [en_congr (show frOk f ↔ fr4 f by unfold frOk; constructor <;> intro h <;> grind)]; exact c_frame_Check4 f hf h4
  by_cases h5 : f.typ = 5
  · rw [en_congr (show frOk f ↔ fr5 f by unfold frOk; constructor <;> intro h <;> grind)]; exact c_frame_Check5 f hf h5
  by_cases h6 : f.typ = 6
  · rw [en_congr (show frOk f ↔ fr6 f by unfold frOk; constructor <;> intro h <;> grind)]; exact c_frame_Check6 f hf h6
  by_cases h7 : f.typ = 7
  · rw [en_congr (show frOk f ↔ fr7 f by unfold frOk; constructor <;> intro h <;> grind)]; exact c_frame_Check7 f hf h7
  rw [en_congr (show frOk f ↔ False by unfold frOk; constructor <;> intro h <;> grind)]; exact c_frame_Check0 f hf (by omega)
end Go.Proofs.Ytmjpidjdbofdjaa

