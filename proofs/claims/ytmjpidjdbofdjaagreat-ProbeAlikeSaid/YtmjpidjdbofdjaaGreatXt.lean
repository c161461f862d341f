import Derived.Test.YtmjpidjdbofdjaaGreatPg
/- The law ProbeAlike. -/
set_option linter.unusedVariables false
set_option linter.unusedSimpArgs false
set_option maxRecDepth 100000
set_option maxHeartbeats 1600000
namespace Go.Proofs.YtmjpidjdbofdjaaGreat
open Go Go.Sy
theorem c_ProbeAlike (a b : Ar) (chunk : Int) : Fc Tryz.prog n_ouroboroslaw18_ProbeAlike [a.sv, b.sv, iv chunk] (sb true) := by
  have fa := c_law08_Few a
  have fb := c_law08_Few b
  by_cases h1 : arFew a
  case neg =>
    rw [decide_eq_false h1] at fa
    refine Fc.of_body tabOk q_ouroboroslaw18_ProbeAlike (by kernel_rfl) ((blwL_cons (blw_ar 0 a) (blwL_cons (blw_ar 0 b) (blwL_one rfl)))) (rfl) ?_
    conv => whnf
    repeat' (first
      | (refine bltG (by first | omega | (simp only [List.length_map] at *; omega)) ?_; conv => whnf)
      | (refine ndG (by assumption) ?_; conv => whnf)
      | (refine mulG ?_; conv => whnf)
      | (refine And.intro rfl ?_; conv => whnf)
      | (refine dsT (by assumption) ?_; conv => whnf)
      | (refine dsF (by assumption) ?_; conv => whnf)
      | (refine nsT (by assumption) ?_; conv => whnf)
      | (refine nsF (by assumption) ?_; conv => whnf)
      | (refine bsT (by assumption) ?_; conv => whnf)
      | (refine bsF (by assumption) ?_; conv => whnf)
      | (refine dsp ?_ ?_ <;> intro _ <;> conv => whnf)
      | (refine nsp ?_ ?_ <;> intro _ <;> conv => whnf)
      | (refine cnd_true (by assumption) ?_; conv => whnf)
      | (refine cnd_false (by assumption) ?_; conv => whnf)
      | (refine cnd_split ?_ ?_ <;> intro _ <;> conv => whnf)
      | (refine Cd.par tabOk (by kernel_rfl) (by kernel_rfl) ?_; conv => whnf)
      | (refine Fc.use (c_works) ?_ ?_; (focus ((repeat' constructor); done)); conv => whnf)
      | (refine CallQ.of (c_works) ?_ ?_; (focus ((repeat' constructor); done)); conv => whnf)
      | (refine Fc.use (fa) ?_ ?_; (focus ((repeat' constructor); done)); conv => whnf)
      | (refine CallQ.of (fa) ?_ ?_; (focus ((repeat' constructor); done)); conv => whnf))
    all_goals rfl
  by_cases h2 : arFew b
  case neg =>
    rw [decide_eq_true h1] at fa
    rw [decide_eq_false h2] at fb
    refine Fc.of_body tabOk q_ouroboroslaw18_ProbeAlike (by kernel_rfl) ((blwL_cons (blw_ar 0 a) (blwL_cons (blw_ar 0 b) (blwL_one rfl)))) (rfl) ?_
    conv => whnf
    repeat' (first
      | (refine bltG (by first | omega | (simp only [List.length_map] at *; omega)) ?_; conv => whnf)
      | (refine ndG (by assumption) ?_; conv => whnf)
      | (refine mulG ?_; conv => whnf)
      | (refine And.intro rfl ?_; conv => whnf)
      | (refine dsT (by assumption) ?_; conv => whnf)
      | (refine dsF (by assumption) ?_; conv => whnf)
      | (refine nsT (by assumption) ?_; conv => whnf)
      | (refine nsF (by assumption) ?_; conv => whnf)
      | (refine bsT (by assumption) ?_; conv => whnf)
      | (refine bsF (by assumption) ?_; conv => whnf)
      | (refine dsp ?_ ?_ <;> intro _ <;> conv => whnf)
      | (refine nsp ?_ ?_ <;> intro _ <;> conv => whnf)
      | (refine cnd_true (by assumption) ?_; conv => whnf)
      | (refine cnd_false (by assumption) ?_; conv => whnf)
      | (refine cnd_split ?_ ?_ <;> intro _ <;> conv => whnf)
      | (refine Cd.par tabOk (by kernel_rfl) (by kernel_rfl) ?_; conv => whnf)
      | (refine Fc.use (c_works) ?_ ?_; (focus ((repeat' constructor); done)); conv => whnf)
      | (refine CallQ.of (c_works) ?_ ?_; (focus ((repeat' constructor); done)); conv => whnf)
      | (refine Fc.use (fa) ?_ ?_; (focus ((repeat' constructor); done)); conv => whnf)
      | (refine CallQ.of (fa) ?_ ?_; (focus ((repeat' constructor); done)); conv => whnf)
      | (refine Fc.use (fb) ?_ ?_; (focus ((repeat' constructor); done)); conv => whnf)
      | (refine CallQ.of (fb) ?_ ?_; (focus ((repeat' constructor); done)); conv => whnf))
    all_goals rfl
  rw [decide_eq_true h1] at fa
  rw [decide_eq_true h2] at fb
  have ha := h1.bd
  have hb := h2.bd
  have ka := c_probe_Ask a ha
  have kw := c_Want b hb (askF a) (askF_bd a) chunk
  have kl := c_Alike a b ha hb
  have sa := c_Sums a ha
  have sb' := c_Sums b hb
  have kd := c_digest_Differ (smF a 0) (smF a 1) (smF a 2) (smF a 3) (smF b 0) (smF b 1) (smF b 2) (smF b 3)
  have hmm : dif (smF a 0) (smF a 1) (smF a 2) (smF a 3) (smF b 0) (smF b 1) (smF b 2) (smF b 3) = mskF b (askF a) := dif_symm _ _ _ _ _ _ _ _
  rw [hmm] at kd
  by_cases hw : wantB b (askF a) chunk
  · have hl : ¬ alikeB a b := fun h => hw.2 (by rw [alike_ask h]; exact msk_self b)
    rw [decide_eq_true hw] at kw
    rw [decide_eq_false hl] at kl
    have kc := c_frame_Check (wantF b (askF a) chunk) (wantF_bd _ _ _)
    unfold en at kc
    rw [if_pos (wantF_ok hw)] at kc
    have hm : ((inF b (mskF b (askF a)) chunk).length : Int) ≤ chunk := inS_most (by have := hw.1.2.2.1; omega) _
    rw [show wantF b (askF a) chunk = ⟨4, mskF b (askF a), 0, 0, 0, 0, 0, inF b (mskF b (askF a)) chunk⟩ from if_pos hw] at kw kc
    generalize inF b (mskF b (askF a)) chunk = l at *
    generalize mskF b (askF a) = m at *
    generalize askF a = FAa at *
    have hm' : ((l.map Ent.sv).length : Int) ≤ chunk := by rw [List.length_map]; exact hm
    refine Fc.of_body tabOk q_ouroboroslaw18_ProbeAlike (by kernel_rfl) ((blwL_cons (blw_ar 0 a) (blwL_cons (blw_ar 0 b) (blwL_one rfl)))) (rfl) ?_
    conv => whnf
    repeat' (first
      | (refine Cd.parT tabOk (by kernel_rfl) [8, 9] rfl ?_; conv => whnf)
      | (refine bltG (by first | omega | (simp only [List.length_map] at *; omega)) ?_; conv => whnf)
      | (refine ndG (by assumption) ?_; conv => whnf)
      | (refine mulG ?_; conv => whnf)
      | (refine And.intro rfl ?_; conv => whnf)
      | (refine dsT (by assumption) ?_; conv => whnf)
      | (refine dsF (by assumption) ?_; conv => whnf)
      | (refine nsT (by assumption) ?_; conv => whnf)
      | (refine nsF (by assumption) ?_; conv => whnf)
      | (refine bsT (by assumption) ?_; conv => whnf)
      | (refine bsF (by assumption) ?_; conv => whnf)
      | (refine dsp ?_ ?_ <;> intro _ <;> conv => whnf)
      | (refine nsp ?_ ?_ <;> intro _ <;> conv => whnf)
      | (refine cnd_true (by assumption) ?_; conv => whnf)
      | (refine cnd_false (by assumption) ?_; conv => whnf)
      | (refine cnd_split ?_ ?_ <;> intro _ <;> conv => whnf)
      | (refine Cd.par tabOk (by kernel_rfl) (by kernel_rfl) ?_; conv => whnf)
      | (refine Fc.use (c_works) ?_ ?_; (focus ((repeat' constructor); done)); conv => whnf)
      | (refine CallQ.of (c_works) ?_ ?_; (focus ((repeat' constructor); done)); conv => whnf)
      | (refine Fc.use (fa) ?_ ?_; (focus ((repeat' constructor); done)); conv => whnf)
      | (refine CallQ.of (fa) ?_ ?_; (focus ((repeat' constructor); done)); conv => whnf)
      | (refine Fc.use (fb) ?_ ?_; (focus ((repeat' constructor); done)); conv => whnf)
      | (refine CallQ.of (fb) ?_ ?_; (focus ((repeat' constructor); done)); conv => whnf)
      | (refine Fc.use (ka) ?_ ?_; (focus ((repeat' constructor); done)); conv => whnf)
      | (refine CallQ.of (ka) ?_ ?_; (focus ((repeat' constructor); done)); conv => whnf)
      | (refine Fc.use (kw) ?_ ?_; (focus ((repeat' constructor); done)); conv => whnf)
      | (refine CallQ.of (kw) ?_ ?_; (focus ((repeat' constructor); done)); conv => whnf)
      | (refine Fc.use (kc) ?_ ?_; (focus ((repeat' constructor); done)); conv => whnf)
      | (refine CallQ.of (kc) ?_ ?_; (focus ((repeat' constructor); done)); conv => whnf)
      | (refine Fc.use (kl) ?_ ?_; (focus ((repeat' constructor); done)); conv => whnf)
      | (refine CallQ.of (kl) ?_ ?_; (focus ((repeat' constructor); done)); conv => whnf)
      | (refine Fc.use (sa) ?_ ?_; (focus ((repeat' constructor); done)); conv => whnf)
      | (refine CallQ.of (sa) ?_ ?_; (focus ((repeat' constructor); done)); conv => whnf)
      | (refine Fc.use (sb') ?_ ?_; (focus ((repeat' constructor); done)); conv => whnf)
      | (refine CallQ.of (sb') ?_ ?_; (focus ((repeat' constructor); done)); conv => whnf)
      | (refine Fc.use (kd) ?_ ?_; (focus ((repeat' constructor); done)); conv => whnf)
      | (refine CallQ.of (kd) ?_ ?_; (focus ((repeat' constructor); done)); conv => whnf)
      | rfl
      | exact True.intro
      | (refine And.intro ?_ ?_ <;> conv => whnf))
    · exact stT hm'
    · exact absurd rfl ‹¬ _›
  · have ks := c_frame_Same FZ FZ ⟨fun e he => by simp [FZ] at he, by simp [FZ]⟩
    rw [decide_eq_true rfl] at ks
    rw [decide_eq_false hw, show wantF b (askF a) chunk = FZ from if_neg hw] at kw
    generalize askF a = FAa at *
    generalize decide (alikeB a b) = al at kl
    cases al
    all_goals
      refine Fc.of_body tabOk q_ouroboroslaw18_ProbeAlike (by kernel_rfl) ((blwL_cons (blw_ar 0 a) (blwL_cons (blw_ar 0 b) (blwL_one rfl)))) (rfl) ?_
      conv => whnf
      repeat' (first
        | (refine Cd.parT tabOk (by kernel_rfl) [8, 9] rfl ?_; conv => whnf)
        | (refine bltG (by first | omega | (simp only [List.length_map] at *; omega)) ?_; conv => whnf)
        | (refine ndG (by assumption) ?_; conv => whnf)
        | (refine mulG ?_; conv => whnf)
        | (refine And.intro rfl ?_; conv => whnf)
        | (refine dsT (by assumption) ?_; conv => whnf)
        | (refine dsF (by assumption) ?_; conv => whnf)
        | (refine nsT (by assumption) ?_; conv => whnf)
        | (refine nsF (by assumption) ?_; conv => whnf)
        | (refine bsT (by assumption) ?_; conv => whnf)
        | (refine bsF (by assumption) ?_; conv => whnf)
        | (refine dsp ?_ ?_ <;> intro _ <;> conv => whnf)
        | (refine nsp ?_ ?_ <;> intro _ <;> conv => whnf)
        | (refine cnd_true (by assumption) ?_; conv => whnf)
        | (refine cnd_false (by assumption) ?_; conv => whnf)
        | (refine cnd_split ?_ ?_ <;> intro _ <;> conv => whnf)
        | (refine Cd.par tabOk (by kernel_rfl) (by kernel_rfl) ?_; conv => whnf)
        | (refine Fc.use (c_works) ?_ ?_; (focus ((repeat' constructor); done)); conv => whnf)
        | (refine CallQ.of (c_works) ?_ ?_; (focus ((repeat' constructor); done)); conv => whnf)
        | (refine Fc.use (fa) ?_ ?_; (focus ((repeat' constructor); done)); conv => whnf)
        | (refine CallQ.of (fa) ?_ ?_; (focus ((repeat' constructor); done)); conv => whnf)
        | (refine Fc.use (fb) ?_ ?_; (focus ((repeat' constructor); done)); conv => whnf)
        | (refine CallQ.of (fb) ?_ ?_; (focus ((repeat' constructor); done)); conv => whnf)
        | (refine Fc.use (ka) ?_ ?_; (focus ((repeat' constructor); done)); conv => whnf)
        | (refine CallQ.of (ka) ?_ ?_; (focus ((repeat' constructor); done)); conv => whnf)
        | (refine Fc.use (kw) ?_ ?_; (focus ((repeat' constructor); done)); conv => whnf)
        | (refine CallQ.of (kw) ?_ ?_; (focus ((repeat' constructor); done)); conv => whnf)
        | (refine Fc.use (kl) ?_ ?_; (focus ((repeat' constructor); done)); conv => whnf)
        | (refine CallQ.of (kl) ?_ ?_; (focus ((repeat' constructor); done)); conv => whnf)
        | (refine Fc.use (ks) ?_ ?_; (focus ((repeat' constructor); done)); conv => whnf)
        | (refine CallQ.of (ks) ?_ ?_; (focus ((repeat' constructor); done)); conv => whnf)
        | rfl
        | exact True.intro
        | (refine And.intro ?_ ?_ <;> conv => whnf))
      all_goals rfl
end Go.Proofs.YtmjpidjdbofdjaaGreat

