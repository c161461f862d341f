import Derived.Test.YtmjpidjdbofdjaaGreatRf
/- Contracts of the references: probes; the law ProbeTells. -/
set_option linter.unusedVariables false
set_option linter.unusedSimpArgs false
set_option maxRecDepth 100000
set_option maxHeartbeats 1600000
namespace Go.Proofs.YtmjpidjdbofdjaaGreat
open Go Go.Sy
theorem r_Ask (a : Ar) (ha : a.bd) (hf : a.fw) : Fc Tryz.prog n_ouroborosref18_Ask [a.sv] (askF a).sv := by
  have h := r_Sums a ha hf
  unfold askF
  generalize smF a 0 = x0 at *
  generalize smF a 1 = x1 at *
  generalize smF a 2 = x2 at *
  generalize smF a 3 = x3 at *
  refine Fc.of_body tabOk q_ouroborosref18_Ask (by kernel_rfl) ((blwL_one (blw_ar 0 a))) (rfl) ?_
  conv => whnf
  repeat' (first
    | (refine bltG (by first | omega | (simp only [List.length_map] at *; omega)) ?_; conv => whnf)
    | (refine ndG (by assumption) ?_; conv => whnf)
    | (refine mulG ?_; conv => whnf)
    | (refine And.intro rfl ?_; conv => whnf)
    | (refine dsT (by assumption) ?_; conv => whnf)
    | (refine dsF (by assumption) ?_; conv => whnf)
    | (refine nsT (by assumption) ?_; conv => whnf)
    | (refine nsF (by assumption) ?_; conv => whnf)
    | (refine bsT (by assumption) ?_; conv => whnf)
    | (refine bsF (by assumption) ?_; conv => whnf)
    | (refine dsp ?_ ?_ <;> intro _ <;> conv => whnf)
    | (refine nsp ?_ ?_ <;> intro _ <;> conv => whnf)
    | (refine cnd_true (by assumption) ?_; conv => whnf)
    | (refine cnd_false (by assumption) ?_; conv => whnf)
    | (refine cnd_split ?_ ?_ <;> intro _ <;> conv => whnf)
    | (refine Cd.par tabOk (by kernel_rfl) (by kernel_rfl) ?_; conv => whnf)
    | (refine Fc.use (h) ?_ ?_; (focus ((repeat' constructor); done)); conv => whnf)
    | (refine CallQ.of (h) ?_ ?_; (focus ((repeat' constructor); done)); conv => whnf)
    | rfl
    | exact True.intro
    | (refine And.intro ?_ ?_ <;> conv => whnf))
  all_goals first | rfl | (repeat' constructor)
theorem r_Want (a : Ar) (ha : a.bd) (hw : a.fw) (f : Fra) (hf : f.bd) (hi : f.iw) (chunk : Int) : Fc Tryz.prog n_ouroborosref18_Want [a.sv, f.sv, iv chunk] (.tup [(wantF a f chunk).sv, sb (decide (wantB a f chunk))]) := by
  have h1 := r_Sums a ha hw
  have h2 := r_Differ (smF a 0) (smF a 1) (smF a 2) (smF a 3) f.l0 f.l1 f.l2 f.l3
  have h3 := r_fr_Check f hf hi
  have h4 := r_In a ha (mskF a f) chunk
  have bb : blwL 0 [a.sv, f.sv, iv chunk] = true := blwL_cons (blw_ar 0 a) (blwL_cons (blw_fra 0 f) (blwL_one rfl))
  change Fc Tryz.prog n_ouroborosref10_Differ _ (iv (mskF a f)) at h2
  by_cases hb : wantB a f chunk
  · rw [decide_eq_true hb, show wantF a f chunk = ⟨4, mskF a f, 0, 0, 0, 0, 0, inF a (mskF a f) chunk⟩ from if_pos hb]
    obtain ⟨⟨b1, b2, b3, b4⟩, b5⟩ := hb
    rw [decide_eq_true b1] at h3
    have q3 : ¬ chunk < 1 := by omega
    have q4 : ¬ 8 < chunk := by omega
    generalize inF a (mskF a f) chunk = il at *
    generalize mskF a f = M at *
    refine Fc.of_body tabOk q_ouroborosref18_Want (by kernel_rfl) (bb) ((blw_tf _ _)) ?_
    conv => whnf
    repeat' (first
      | (refine bltG (by first | omega | (simp only [List.length_map] at *; omega)) ?_; conv => whnf)
      | (refine ndG (by assumption) ?_; conv => whnf)
      | (refine mulG ?_; conv => whnf)
      | (refine And.intro rfl ?_; conv => whnf)
      | (refine dsT (by assumption) ?_; conv => whnf)
      | (refine dsF (by assumption) ?_; conv => whnf)
      | (refine nsT (by assumption) ?_; conv => whnf)
      | (refine nsF (by assumption) ?_; conv => whnf)
      | (refine bsT (by assumption) ?_; conv => whnf)
      | (refine bsF (by assumption) ?_; conv => whnf)
      | (refine dsp ?_ ?_ <;> intro _ <;> conv => whnf)
      | (refine nsp ?_ ?_ <;> intro _ <;> conv => whnf)
      | (refine cnd_true (by assumption) ?_; conv => whnf)
      | (refine cnd_false (by assumption) ?_; conv => whnf)
      | (refine cnd_split ?_ ?_ <;> intro _ <;> conv => whnf)
      | (refine Cd.par tabOk (by kernel_rfl) (by kernel_rfl) ?_; conv => whnf)
      | (refine Fc.use (h1) ?_ ?_; (focus ((repeat' constructor); done)); conv => whnf)
      | (refine CallQ.of (h1) ?_ ?_; (focus ((repeat' constructor); done)); conv => whnf)
      | (refine Fc.use (h2) ?_ ?_; (focus ((repeat' constructor); done)); conv => whnf)
      | (refine CallQ.of (h2) ?_ ?_; (focus ((repeat' constructor); done)); conv => whnf)
      | (refine Fc.use (h3) ?_ ?_; (focus ((repeat' constructor); done)); conv => whnf)
      | (refine CallQ.of (h3) ?_ ?_; (focus ((repeat' constructor); done)); conv => whnf)
      | (refine Fc.use (h4) ?_ ?_; (focus ((repeat' constructor); done)); conv => whnf)
      | (refine CallQ.of (h4) ?_ ?_; (focus ((repeat' constructor); done)); conv => whnf)
      | rfl
      | exact True.intro
      | (refine And.intro ?_ ?_ <;> conv => whnf))
    all_goals first | rfl | (repeat' constructor)
  · rw [decide_eq_false hb, show wantF a f chunk = FZ from if_neg hb]
    by_cases b1 : frOk f
    · rw [decide_eq_true b1] at h3
      by_cases b2 : f.typ = 3
      · by_cases b5 : mskF a f = 0
        · generalize inF a (mskF a f) chunk = il at *
          generalize mskF a f = M at *
          refine Fc.of_body tabOk q_ouroborosref18_Want (by kernel_rfl) (bb) ((blw_tf _ _)) ?_
          conv => whnf
          repeat' (first
            | (refine bltG (by first | omega | (simp only [List.length_map] at *; omega)) ?_; conv => whnf)
            | (refine ndG (by assumption) ?_; conv => whnf)
            | (refine mulG ?_; conv => whnf)
            | (refine And.intro rfl ?_; conv => whnf)
            | (refine dsT (by assumption) ?_; conv => whnf)
            | (refine dsF (by assumption) ?_; conv => whnf)
            | (refine nsT (by assumption) ?_; conv => whnf)
            | (refine nsF (by assumption) ?_; conv => whnf)
            | (refine bsT (by assumption) ?_; conv => whnf)
            | (refine bsF (by assumption) ?_; conv => whnf)
            | (refine dsp ?_ ?_ <;> intro _ <;> conv => whnf)
            | (refine nsp ?_ ?_ <;> intro _ <;> conv => whnf)
            | (refine cnd_true (by assumption) ?_; conv => whnf)
            | (refine cnd_false (by assumption) ?_; conv => whnf)
            | (refine cnd_split ?_ ?_ <;> intro _ <;> conv => whnf)
            | (refine Cd.par tabOk (by kernel_rfl) (by kernel_rfl) ?_; conv => whnf)
            | (refine Fc.use (h1) ?_ ?_; (focus ((repeat' constructor); done)); conv => whnf)
            | (refine CallQ.of (h1) ?_ ?_; (focus ((repeat' constructor); done)); conv => whnf)
            | (refine Fc.use (h2) ?_ ?_; (focus ((repeat' constructor); done)); conv => whnf)
            | (refine CallQ.of (h2) ?_ ?_; (focus ((repeat' constructor); done)); conv => whnf)
            | (refine Fc.use (h3) ?_ ?_; (focus ((repeat' constructor); done)); conv => whnf)
            | (refine CallQ.of (h3) ?_ ?_; (focus ((repeat' constructor); done)); conv => whnf)
            | (refine Fc.use (h4) ?_ ?_; (focus ((repeat' constructor); done)); conv => whnf)
            | (refine CallQ.of (h4) ?_ ?_; (focus ((repeat' constructor); done)); conv => whnf)
            | rfl
            | exact True.intro
            | (refine And.intro ?_ ?_ <;> conv => whnf))
          all_goals first | rfl | (repeat' constructor)
        · by_cases q3 : chunk < 1
          · generalize inF a (mskF a f) chunk = il at *
            generalize mskF a f = M at *
            refine Fc.of_body tabOk q_ouroborosref18_Want (by kernel_rfl) (bb) ((blw_tf _ _)) ?_
            conv => whnf
            repeat' (first
              | (refine bltG (by first | omega | (simp only [List.length_map] at *; omega)) ?_; conv => whnf)
              | (refine ndG (by assumption) ?_; conv => whnf)
              | (refine mulG ?_; conv => whnf)
              | (refine And.intro rfl ?_; conv => whnf)
              | (refine dsT (by assumption) ?_; conv => whnf)
              | (refine dsF (by assumption) ?_; conv => whnf)
              | (refine nsT (by assumption) ?_; conv => whnf)
              | (refine nsF (by assumption) ?_; conv => whnf)
              | (refine bsT (by assumption) ?_; conv => whnf)
              | (refine bsF (by assumption) ?_; conv => whnf)
              | (refine dsp ?_ ?_ <;> intro _ <;> conv => whnf)
              | (refine nsp ?_ ?_ <;> intro _ <;> conv => whnf)
              | (refine cnd_true (by assumption) ?_; conv => whnf)
              | (refine cnd_false (by assumption) ?_; conv => whnf)
              | (refine cnd_split ?_ ?_ <;> intro _ <;> conv => whnf)
              | (refine Cd.par tabOk (by kernel_rfl) (by kernel_rfl) ?_; conv => whnf)
              | (refine Fc.use (h1) ?_ ?_; (focus ((repeat' constructor); done)); conv => whnf)
              | (refine CallQ.of (h1) ?_ ?_; (focus ((repeat' constructor); done)); conv => whnf)
              | (refine Fc.use (h2) ?_ ?_; (focus ((repeat' constructor); done)); conv => whnf)
              | (refine CallQ.of (h2) ?_ ?_; (focus ((repeat' constructor); done)); conv => whnf)
              | (refine Fc.use (h3) ?_ ?_; (focus ((repeat' constructor); done)); conv => whnf)
              | (refine CallQ.of (h3) ?_ ?_; (focus ((repeat' constructor); done)); conv => whnf)
              | (refine Fc.use (h4) ?_ ?_; (focus ((repeat' constructor); done)); conv => whnf)
              | (refine CallQ.of (h4) ?_ ?_; (focus ((repeat' constructor); done)); conv => whnf)
              | rfl
              | exact True.intro
              | (refine And.intro ?_ ?_ <;> conv => whnf))
            all_goals first | rfl | (repeat' constructor)
          · have q4 : 8 < chunk := Classical.byContradiction fun q => hb ⟨⟨b1, b2, by omega, by omega⟩, b5⟩
            generalize inF a (mskF a f) chunk = il at *
            generalize mskF a f = M at *
            refine Fc.of_body tabOk q_ouroborosref18_Want (by kernel_rfl) (bb) ((blw_tf _ _)) ?_
            conv => whnf
            repeat' (first
              | (refine bltG (by first | omega | (simp only [List.length_map] at *; omega)) ?_; conv => whnf)
              | (refine ndG (by assumption) ?_; conv => whnf)
              | (refine mulG ?_; conv => whnf)
              | (refine And.intro rfl ?_; conv => whnf)
              | (refine dsT (by assumption) ?_; conv => whnf)
              | (refine dsF (by assumption) ?_; conv => whnf)
              | (refine nsT (by assumption) ?_; conv => whnf)
              | (refine nsF (by assumption) ?_; conv => whnf)
              | (refine bsT (by assumption) ?_; conv => whnf)
              | (refine bsF (by assumption) ?_; conv => whnf)
              | (refine dsp ?_ ?_ <;> intro _ <;> conv => whnf)
              | (refine nsp ?_ ?_ <;> intro _ <;> conv => whnf)
              | (refine cnd_true (by assumption) ?_; conv => whnf)
              | (refine cnd_false (by assumption) ?_; conv => whnf)
              | (refine cnd_split ?_ ?_ <;> intro _ <;> conv => whnf)
              | (refine Cd.par tabOk (by kernel_rfl) (by kernel_rfl) ?_; conv => whnf)
              | (refine Fc.use (h1) ?_ ?_; (focus ((repeat' constructor); done)); conv => whnf)
              | (refine CallQ.of (h1) ?_ ?_; (focus ((repeat' constructor); done)); conv => whnf)
              | (refine Fc.use (h2) ?_ ?_; (focus ((repeat' constructor); done)); conv => whnf)
              | (refine CallQ.of (h2) ?_ ?_; (focus ((repeat' constructor); done)); conv => whnf)
              | (refine Fc.use (h3) ?_ ?_; (focus ((repeat' constructor); done)); conv => whnf)
              | (refine CallQ.of (h3) ?_ ?_; (focus ((repeat' constructor); done)); conv => whnf)
              | (refine Fc.use (h4) ?_ ?_; (focus ((repeat' constructor); done)); conv => whnf)
              | (refine CallQ.of (h4) ?_ ?_; (focus ((repeat' constructor); done)); conv => whnf)
              | rfl
              | exact True.intro
              | (refine And.intro ?_ ?_ <;> conv => whnf))
            all_goals first | rfl | (repeat' constructor)
      · generalize inF a (mskF a f) chunk = il at *
        generalize mskF a f = M at *
        refine Fc.of_body tabOk q_ouroborosref18_Want (by kernel_rfl) (bb) ((blw_tf _ _)) ?_
        conv => whnf
        repeat' (first
          | (refine bltG (by first | omega | (simp only [List.length_map] at *; omega)) ?_; conv => whnf)
          | (refine ndG (by assumption) ?_; conv => whnf)
          | (refine mulG ?_; conv => whnf)
          | (refine And.intro rfl ?_; conv => whnf)
          | (refine dsT (by assumption) ?_; conv => whnf)
          | (refine dsF (by assumption) ?_; conv => whnf)
          | (refine nsT (by assumption) ?_; conv => whnf)
          | (refine nsF (by assumption) ?_; conv => whnf)
          | (refine bsT (by assumption) ?_; conv => whnf)
          | (refine bsF (by assumption) ?_; conv => whnf)
          | (refine dsp ?_ ?_ <;> intro _ <;> conv => whnf)
          | (refine nsp ?_ ?_ <;> intro _ <;> conv => whnf)
          | (refine cnd_true (by assumption) ?_; conv => whnf)
          | (refine cnd_false (by assumption) ?_; conv => whnf)
          | (refine cnd_split ?_ ?_ <;> intro _ <;> conv => whnf)
          | (refine Cd.par tabOk (by kernel_rfl) (by kernel_rfl) ?_; conv => whnf)
          | (refine Fc.use (h1) ?_ ?_; (focus ((repeat' constructor); done)); conv => whnf)
          | (refine CallQ.of (h1) ?_ ?_; (focus ((repeat' constructor); done)); conv => whnf)
          | (refine Fc.use (h2) ?_ ?_; (focus ((repeat' constructor); done)); conv => whnf)
          | (refine CallQ.of (h2) ?_ ?_; (focus ((repeat' constructor); done)); conv => whnf)
          | (refine Fc.use (h3) ?_ ?_; (focus ((repeat' constructor); done)); conv => whnf)
          | (refine CallQ.of (h3) ?_ ?_; (focus ((repeat' constructor); done)); conv => whnf)
          | (refine Fc.use (h4) ?_ ?_; (focus ((repeat' constructor); done)); conv => whnf)
          | (refine CallQ.of (h4) ?_ ?_; (focus ((repeat' constructor); done)); conv => whnf)
          | rfl
          | exact True.intro
          | (refine And.intro ?_ ?_ <;> conv => whnf))
        all_goals first | rfl | (repeat' constructor)
    · rw [decide_eq_false b1] at h3
      generalize inF a (mskF a f) chunk = il at *
      generalize mskF a f = M at *
      refine Fc.of_body tabOk q_ouroborosref18_Want (by kernel_rfl) (bb) ((blw_tf _ _)) ?_
      conv => whnf
      repeat' (first
        | (refine bltG (by first | omega | (simp only [List.length_map] at *; omega)) ?_; conv => whnf)
        | (refine ndG (by assumption) ?_; conv => whnf)
        | (refine mulG ?_; conv => whnf)
        | (refine And.intro rfl ?_; conv => whnf)
        | (refine dsT (by assumption) ?_; conv => whnf)
        | (refine dsF (by assumption) ?_; conv => whnf)
        | (refine nsT (by assumption) ?_; conv => whnf)
        | (refine nsF (by assumption) ?_; conv => whnf)
        | (refine bsT (by assumption) ?_; conv => whnf)
        | (refine bsF (by assumption) ?_; conv => whnf)
        | (refine dsp ?_ ?_ <;> intro _ <;> conv => whnf)
        | (refine nsp ?_ ?_ <;> intro _ <;> conv => whnf)
        | (refine cnd_true (by assumption) ?_; conv => whnf)
        | (refine cnd_false (by assumption) ?_; conv => whnf)
        | (refine cnd_split ?_ ?_ <;> intro _ <;> conv => whnf)
        | (refine Cd.par tabOk (by kernel_rfl) (by kernel_rfl) ?_; conv => whnf)
        | (refine Fc.use (h1) ?_ ?_; (focus ((repeat' constructor); done)); conv => whnf)
        | (refine CallQ.of (h1) ?_ ?_; (focus ((repeat' constructor); done)); conv => whnf)
        | (refine Fc.use (h2) ?_ ?_; (focus ((repeat' constructor); done)); conv => whnf)
        | (refine CallQ.of (h2) ?_ ?_; (focus ((repeat' constructor); done)); conv => whnf)
        | (refine Fc.use (h3) ?_ ?_; (focus ((repeat' constructor); done)); conv => whnf)
        | (refine CallQ.of (h3) ?_ ?_; (focus ((repeat' constructor); done)); conv => whnf)
        | (refine Fc.use (h4) ?_ ?_; (focus ((repeat' constructor); done)); conv => whnf)
        | (refine CallQ.of (h4) ?_ ?_; (focus ((repeat' constructor); done)); conv => whnf)
        | rfl
        | exact True.intro
        | (refine And.intro ?_ ?_ <;> conv => whnf))
      all_goals first | rfl | (repeat' constructor)
theorem r_Give (a : Ar) (ha : a.bd) (f : Fra) (hf : f.bd) (hi : f.iw) (chunk : Int) : Fc Tryz.prog n_ouroborosref18_Give [a.sv, f.sv, iv chunk] (.tup [(giveF a f chunk).sv, sb (decide (giveB a f chunk))]) := by
  have h3 := r_fr_Check f hf hi
  have h4 := r_In a ha f.a chunk
  have bb : blwL 0 [a.sv, f.sv, iv chunk] = true := blwL_cons (blw_ar 0 a) (blwL_cons (blw_fra 0 f) (blwL_one rfl))
  by_cases hb : giveB a f chunk
  · rw [decide_eq_true hb, show giveF a f chunk = ⟨5, 0, 0, 0, 0, 0, 0, inF a f.a chunk⟩ from if_pos hb]
    obtain ⟨⟨b1, b2, b3, b4⟩, b5⟩ := hb
    rw [decide_eq_true b1] at h3
    have q3 : ¬ chunk < 1 := by omega
    have q4 : ¬ 8 < chunk := by omega
    generalize inF a f.a chunk = il at *
    have q5 : ¬ ((il.map Ent.sv).length : Int) = 0 := by rw [List.length_map]; intro h; exact b5 (List.length_eq_zero_iff.1 (by omega))
    refine Fc.of_body tabOk q_ouroborosref18_Give (by kernel_rfl) (bb) ((blw_tf _ _)) ?_
    conv => whnf
    repeat' (first
      | (refine bltG (by first | omega | (simp only [List.length_map] at *; omega)) ?_; conv => whnf)
      | (refine ndG (by assumption) ?_; conv => whnf)
      | (refine mulG ?_; conv => whnf)
      | (refine And.intro rfl ?_; conv => whnf)
      | (refine dsT (by assumption) ?_; conv => whnf)
      | (refine dsF (by assumption) ?_; conv => whnf)
      | (refine nsT (by assumption) ?_; conv => whnf)
      | (refine nsF (by assumption) ?_; conv => whnf)
      | (refine bsT (by assumption) ?_; conv => whnf)
      | (refine bsF (by assumption) ?_; conv => whnf)
      | (refine dsp ?_ ?_ <;> intro _ <;> conv => whnf)
      | (refine nsp ?_ ?_ <;> intro _ <;> conv => whnf)
      | (refine cnd_true (by assumption) ?_; conv => whnf)
      | (refine cnd_false (by assumption) ?_; conv => whnf)
      | (refine cnd_split ?_ ?_ <;> intro _ <;> conv => whnf)
      | (refine Cd.par tabOk (by kernel_rfl) (by kernel_rfl) ?_; conv => whnf)
      | (refine Fc.use (h3) ?_ ?_; (focus ((repeat' constructor); done)); conv => whnf)
      | (refine CallQ.of (h3) ?_ ?_; (focus ((repeat' constructor); done)); conv => whnf)
      | (refine Fc.use (h4) ?_ ?_; (focus ((repeat' constructor); done)); conv => whnf)
      | (refine CallQ.of (h4) ?_ ?_; (focus ((repeat' constructor); done)); conv => whnf)
      | rfl
      | exact True.intro
      | (refine And.intro ?_ ?_ <;> conv => whnf))
    all_goals first | rfl | (repeat' constructor)
  · rw [decide_eq_false hb, show giveF a f chunk = FZ from if_neg hb]
    by_cases b1 : frOk f
    · rw [decide_eq_true b1] at h3
      by_cases b2 : f.typ = 4
      · by_cases b5 : inF a f.a chunk = []
        · generalize inF a f.a chunk = il at *
          subst b5
          have q5 : ((([] : List Ent).map Ent.sv).length : Int) = 0 := rfl
          refine Fc.of_body tabOk q_ouroborosref18_Give (by kernel_rfl) (bb) ((blw_tf _ _)) ?_
          conv => whnf
          repeat' (first
            | (refine bltG (by first | omega | (simp only [List.length_map] at *; omega)) ?_; conv => whnf)
            | (refine ndG (by assumption) ?_; conv => whnf)
            | (refine mulG ?_; conv => whnf)
            | (refine And.intro rfl ?_; conv => whnf)
            | (refine dsT (by assumption) ?_; conv => whnf)
            | (refine dsF (by assumption) ?_; conv => whnf)
            | (refine nsT (by assumption) ?_; conv => whnf)
            | (refine nsF (by assumption) ?_; conv => whnf)
            | (refine bsT (by assumption) ?_; conv => whnf)
            | (refine bsF (by assumption) ?_; conv => whnf)
            | (refine dsp ?_ ?_ <;> intro _ <;> conv => whnf)
            | (refine nsp ?_ ?_ <;> intro _ <;> conv => whnf)
            | (refine cnd_true (by assumption) ?_; conv => whnf)
            | (refine cnd_false (by assumption) ?_; conv => whnf)
            | (refine cnd_split ?_ ?_ <;> intro _ <;> conv => whnf)
            | (refine Cd.par tabOk (by kernel_rfl) (by kernel_rfl) ?_; conv => whnf)
            | (refine Fc.use (h3) ?_ ?_; (focus ((repeat' constructor); done)); conv => whnf)
            | (refine CallQ.of (h3) ?_ ?_; (focus ((repeat' constructor); done)); conv => whnf)
            | (refine Fc.use (h4) ?_ ?_; (focus ((repeat' constructor); done)); conv => whnf)
            | (refine CallQ.of (h4) ?_ ?_; (focus ((repeat' constructor); done)); conv => whnf)
            | rfl
            | exact True.intro
            | (refine And.intro ?_ ?_ <;> conv => whnf))
          all_goals first | rfl | (repeat' constructor)
        · by_cases q3 : chunk < 1
          · generalize inF a f.a chunk = il at *
            have q5 : ¬ ((il.map Ent.sv).length : Int) = 0 := by rw [List.length_map]; intro h; exact b5 (List.length_eq_zero_iff.1 (by omega))
            refine Fc.of_body tabOk q_ouroborosref18_Give (by kernel_rfl) (bb) ((blw_tf _ _)) ?_
            conv => whnf
            repeat' (first
              | (refine bltG (by first | omega | (simp only [List.length_map] at *; omega)) ?_; conv => whnf)
              | (refine ndG (by assumption) ?_; conv => whnf)
              | (refine mulG ?_; conv => whnf)
              | (refine And.intro rfl ?_; conv => whnf)
              | (refine dsT (by assumption) ?_; conv => whnf)
              | (refine dsF (by assumption) ?_; conv => whnf)
              | (refine nsT (by assumption) ?_; conv => whnf)
              | (refine nsF (by assumption) ?_; conv => whnf)
              | (refine bsT (by assumption) ?_; conv => whnf)
              | (refine bsF (by assumption) ?_; conv => whnf)
              | (refine dsp ?_ ?_ <;> intro _ <;> conv => whnf)
              | (refine nsp ?_ ?_ <;> intro _ <;> conv => whnf)
              | (refine cnd_true (by assumption) ?_; conv => whnf)
              | (refine cnd_false (by assumption) ?_; conv => whnf)
              | (refine cnd_split ?_ ?_ <;> intro _ <;> conv => whnf)
              | (refine Cd.par tabOk (by kernel_rfl) (by kernel_rfl) ?_; conv => whnf)
              | (refine Fc.use (h3) ?_ ?_; (focus ((repeat' constructor); done)); conv => whnf)
              | (refine CallQ.of (h3) ?_ ?_; (focus ((repeat' constructor); done)); conv => whnf)
              | (refine Fc.use (h4) ?_ ?_; (focus ((repeat' constructor); done)); conv => whnf)
              | (refine CallQ.of (h4) ?_ ?_; (focus ((repeat' constructor); done)); conv => whnf)
              | rfl
              | exact True.intro
              | (refine And.intro ?_ ?_ <;> conv => whnf))
            all_goals first | rfl | (repeat' constructor)
          · have q4 : 8 < chunk := Classical.byContradiction fun q => hb ⟨⟨b1, b2, by omega, by omega⟩, b5⟩
            generalize inF a f.a chunk = il at *
            have q5 : ¬ ((il.map Ent.sv).length : Int) = 0 := by rw [List.length_map]; intro h; exact b5 (List.length_eq_zero_iff.1 (by omega))
            refine Fc.of_body tabOk q_ouroborosref18_Give (by kernel_rfl) (bb) ((blw_tf _ _)) ?_
            conv => whnf
            repeat' (first
              | (refine bltG (by first | omega | (simp only [List.length_map] at *; omega)) ?_; conv => whnf)
              | (refine ndG (by assumption) ?_; conv => whnf)
              | (refine mulG ?_; conv => whnf)
              | (refine And.intro rfl ?_; conv => whnf)
              | (refine dsT (by assumption) ?_; conv => whnf)
              | (refine dsF (by assumption) ?_; conv => whnf)
              | (refine nsT (by assumption) ?_; conv => whnf)
              | (refine nsF (by assumption) ?_; conv => whnf)
              | (refine bsT (by assumption) ?_; conv => whnf)
              | (refine bsF (by assumption) ?_; conv => whnf)
              | (refine dsp ?_ ?_ <;> intro _ <;> conv => whnf)
              | (refine nsp ?_ ?_ <;> intro _ <;> conv => whnf)
              | (refine cnd_true (by assumption) ?_; conv => whnf)
              | (refine cnd_false (by assumption) ?_; conv => whnf)
              | (refine cnd_split ?_ ?_ <;> intro _ <;> conv => whnf)
              | (refine Cd.par tabOk (by kernel_rfl) (by kernel_rfl) ?_; conv => whnf)
              | (refine Fc.use (h3) ?_ ?_; (focus ((repeat' constructor); done)); conv => whnf)
              | (refine CallQ.of (h3) ?_ ?_; (focus ((repeat' constructor); done)); conv => whnf)
              | (refine Fc.use (h4) ?_ ?_; (focus ((repeat' constructor); done)); conv => whnf)
              | (refine CallQ.of (h4) ?_ ?_; (focus ((repeat' constructor); done)); conv => whnf)
              | rfl
              | exact True.intro
              | (refine And.intro ?_ ?_ <;> conv => whnf))
            all_goals first | rfl | (repeat' constructor)
      · generalize inF a f.a chunk = il at *
        refine Fc.of_body tabOk q_ouroborosref18_Give (by kernel_rfl) (bb) ((blw_tf _ _)) ?_
        conv => whnf
        repeat' (first
          | (refine bltG (by first | omega | (simp only [List.length_map] at *; omega)) ?_; conv => whnf)
          | (refine ndG (by assumption) ?_; conv => whnf)
          | (refine mulG ?_; conv => whnf)
          | (refine And.intro rfl ?_; conv => whnf)
          | (refine dsT (by assumption) ?_; conv => whnf)
          | (refine dsF (by assumption) ?_; conv => whnf)
          | (refine nsT (by assumption) ?_; conv => whnf)
          | (refine nsF (by assumption) ?_; conv => whnf)
          | (refine bsT (by assumption) ?_; conv => whnf)
          | (refine bsF (by assumption) ?_; conv => whnf)
          | (refine dsp ?_ ?_ <;> intro _ <;> conv => whnf)
          | (refine nsp ?_ ?_ <;> intro _ <;> conv => whnf)
          | (refine cnd_true (by assumption) ?_; conv => whnf)
          | (refine cnd_false (by assumption) ?_; conv => whnf)
          | (refine cnd_split ?_ ?_ <;> intro _ <;> conv => whnf)
          | (refine Cd.par tabOk (by kernel_rfl) (by kernel_rfl) ?_; conv => whnf)
          | (refine Fc.use (h3) ?_ ?_; (focus ((repeat' constructor); done)); conv => whnf)
          | (refine CallQ.of (h3) ?_ ?_; (focus ((repeat' constructor); done)); conv => whnf)
          | (refine Fc.use (h4) ?_ ?_; (focus ((repeat' constructor); done)); conv => whnf)
          | (refine CallQ.of (h4) ?_ ?_; (focus ((repeat' constructor); done)); conv => whnf)
          | rfl
          | exact True.intro
          | (refine And.intro ?_ ?_ <;> conv => whnf))
        all_goals first | rfl | (repeat' constructor)
    · rw [decide_eq_false b1] at h3
      generalize inF a f.a chunk = il at *
      refine Fc.of_body tabOk q_ouroborosref18_Give (by kernel_rfl) (bb) ((blw_tf _ _)) ?_
      conv => whnf
      repeat' (first
        | (refine bltG (by first | omega | (simp only [List.length_map] at *; omega)) ?_; conv => whnf)
        | (refine ndG (by assumption) ?_; conv => whnf)
        | (refine mulG ?_; conv => whnf)
        | (refine And.intro rfl ?_; conv => whnf)
        | (refine dsT (by assumption) ?_; conv => whnf)
        | (refine dsF (by assumption) ?_; conv => whnf)
        | (refine nsT (by assumption) ?_; conv => whnf)
        | (refine nsF (by assumption) ?_; conv => whnf)
        | (refine bsT (by assumption) ?_; conv => whnf)
        | (refine bsF (by assumption) ?_; conv => whnf)
        | (refine dsp ?_ ?_ <;> intro _ <;> conv => whnf)
        | (refine nsp ?_ ?_ <;> intro _ <;> conv => whnf)
        | (refine cnd_true (by assumption) ?_; conv => whnf)
        | (refine cnd_false (by assumption) ?_; conv => whnf)
        | (refine cnd_split ?_ ?_ <;> intro _ <;> conv => whnf)
        | (refine Cd.par tabOk (by kernel_rfl) (by kernel_rfl) ?_; conv => whnf)
        | (refine Fc.use (h3) ?_ ?_; (focus ((repeat' constructor); done)); conv => whnf)
        | (refine CallQ.of (h3) ?_ ?_; (focus ((repeat' constructor); done)); conv => whnf)
        | (refine Fc.use (h4) ?_ ?_; (focus ((repeat' constructor); done)); conv => whnf)
        | (refine CallQ.of (h4) ?_ ?_; (focus ((repeat' constructor); done)); conv => whnf)
        | rfl
        | exact True.intro
        | (refine And.intro ?_ ?_ <;> conv => whnf))
      all_goals first | rfl | (repeat' constructor)
theorem c_ProbeTells (a : Ar) (f : Fra) (chunk : Int) (wa : a.fw) (wi : f.iw) : Fc Tryz.prog n_ouroboroslaw18_ProbeTells [a.sv, f.sv, iv chunk] (sb true) := by
  have bb : blwL 0 [a.sv, f.sv, iv chunk] = true := blwL_cons (blw_ar 0 a) (blwL_cons (blw_fra 0 f) (blwL_one rfl))
  have fa := c_law08_Few a
  have fe := c_law08_Entries f.es 12 (by omega)
  by_cases h1 : arFew a
  case neg =>
    rw [decide_eq_false h1] at fa
    refine Fc.of_body tabOk q_ouroboroslaw18_ProbeTells (by kernel_rfl) (bb) (rfl) ?_
    conv => whnf
    repeat' (first
      | (refine bltG (by first | omega | (simp only [List.length_map] at *; omega)) ?_; conv => whnf)
      | (refine ndG (by assumption) ?_; conv => whnf)
      | (refine mulG ?_; conv => whnf)
      | (refine And.intro rfl ?_; conv => whnf)
      | (refine dsT (by assumption) ?_; conv => whnf)
      | (refine dsF (by assumption) ?_; conv => whnf)
      | (refine nsT (by assumption) ?_; conv => whnf)
      | (refine nsF (by assumption) ?_; conv => whnf)
      | (refine bsT (by assumption) ?_; conv => whnf)
      | (refine bsF (by assumption) ?_; conv => whnf)
      | (refine dsp ?_ ?_ <;> intro _ <;> conv => whnf)
      | (refine nsp ?_ ?_ <;> intro _ <;> conv => whnf)
      | (refine cnd_true (by assumption) ?_; conv => whnf)
      | (refine cnd_false (by assumption) ?_; conv => whnf)
      | (refine cnd_split ?_ ?_ <;> intro _ <;> conv => whnf)
      | (refine Cd.par tabOk (by kernel_rfl) (by kernel_rfl) ?_; conv => whnf)
      | (refine Fc.use (c_works) ?_ ?_; (focus ((repeat' constructor); done)); conv => whnf)
      | (refine CallQ.of (c_works) ?_ ?_; (focus ((repeat' constructor); done)); conv => whnf)
      | (refine Fc.use (fa) ?_ ?_; (focus ((repeat' constructor); done)); conv => whnf)
      | (refine CallQ.of (fa) ?_ ?_; (focus ((repeat' constructor); done)); conv => whnf))
    all_goals rfl
  by_cases h2 : ((f.es.length : Int) ≤ 12 ∧ ∀ e ∈ f.es, entFew e)
  case neg =>
    rw [decide_eq_true h1] at fa
    rw [decide_eq_false h2] at fe
    refine Fc.of_body tabOk q_ouroboroslaw18_ProbeTells (by kernel_rfl) (bb) (rfl) ?_
    conv => whnf
    repeat' (first
      | (refine bltG (by first | omega | (simp only [List.length_map] at *; omega)) ?_; conv => whnf)
      | (refine ndG (by assumption) ?_; conv => whnf)
      | (refine mulG ?_; conv => whnf)
      | (refine And.intro rfl ?_; conv => whnf)
      | (refine dsT (by assumption) ?_; conv => whnf)
      | (refine dsF (by assumption) ?_; conv => whnf)
      | (refine nsT (by assumption) ?_; conv => whnf)
      | (refine nsF (by assumption) ?_; conv => whnf)
      | (refine bsT (by assumption) ?_; conv => whnf)
      | (refine bsF (by assumption) ?_; conv => whnf)
      | (refine dsp ?_ ?_ <;> intro _ <;> conv => whnf)
      | (refine nsp ?_ ?_ <;> intro _ <;> conv => whnf)
      | (refine cnd_true (by assumption) ?_; conv => whnf)
      | (refine cnd_false (by assumption) ?_; conv => whnf)
      | (refine cnd_split ?_ ?_ <;> intro _ <;> conv => whnf)
      | (refine Cd.par tabOk (by kernel_rfl) (by kernel_rfl) ?_; conv => whnf)
      | (refine Fc.use (c_works) ?_ ?_; (focus ((repeat' constructor); done)); conv => whnf)
      | (refine CallQ.of (c_works) ?_ ?_; (focus ((repeat' constructor); done)); conv => whnf)
      | (refine Fc.use (fa) ?_ ?_; (focus ((repeat' constructor); done)); conv => whnf)
      | (refine CallQ.of (fa) ?_ ?_; (focus ((repeat' constructor); done)); conv => whnf)
      | (refine Fc.use (fe) ?_ ?_; (focus ((repeat' constructor); done)); conv => whnf)
      | (refine CallQ.of (fe) ?_ ?_; (focus ((repeat' constructor); done)); conv => whnf))
    all_goals rfl
  rw [decide_eq_true h1] at fa
  rw [decide_eq_true h2] at fe
  have ha := h1.bd
  have hf : f.bd := ⟨fun e he => few_bd (h2.2 e he).1, by have := h2.1; omega⟩
  have ka := c_probe_Ask a ha
  have ra := r_Ask a ha wa
  have kw := c_Want a ha f hf chunk
  have rw' := r_Want a ha wa f hf wi chunk
  have kg := c_Give a ha f hf chunk
  have rg := r_Give a ha f hf wi chunk
  have o0 := r_Of f
  have o1 := r_Of (askF a)
  have o2 := r_Of (wantF a f chunk)
  have o3 := r_Of (giveF a f chunk)
  have s1 := r_fr_Same (askF a) (askF a) (askF_bd a)
  have s2 := r_fr_Same (wantF a f chunk) (wantF a f chunk) (wantF_bd a f chunk)
  have s3 := r_fr_Same (giveF a f chunk) (giveF a f chunk) (giveF_bd a f chunk)
  rw [decide_eq_true rfl] at s1 s2 s3
  generalize wantF a f chunk = W at *
  generalize giveF a f chunk = G at *
  generalize askF a = A at *
  generalize decide (wantB a f chunk) = wb at *
  generalize decide (giveB a f chunk) = gb at *
  cases wb <;> cases gb
  all_goals
    refine Fc.of_body tabOk q_ouroboroslaw18_ProbeTells (by kernel_rfl) (bb) (rfl) ?_
    conv => whnf
    repeat' (first
      | (refine bltG (by first | omega | (simp only [List.length_map] at *; omega)) ?_; conv => whnf)
      | (refine ndG (by assumption) ?_; conv => whnf)
      | (refine mulG ?_; conv => whnf)
      | (refine And.intro rfl ?_; conv => whnf)
      | (refine dsT (by assumption) ?_; conv => whnf)
      | (refine dsF (by assumption) ?_; conv => whnf)
      | (refine nsT (by assumption) ?_; conv => whnf)
      | (refine nsF (by assumption) ?_; conv => whnf)
      | (refine bsT (by assumption) ?_; conv => whnf)
      | (refine bsF (by assumption) ?_; conv => whnf)
      | (refine dsp ?_ ?_ <;> intro _ <;> conv => whnf)
      | (refine nsp ?_ ?_ <;> intro _ <;> conv => whnf)
      | (refine cnd_true (by assumption) ?_; conv => whnf)
      | (refine cnd_false (by assumption) ?_; conv => whnf)
      | (refine cnd_split ?_ ?_ <;> intro _ <;> conv => whnf)
      | (refine Cd.par tabOk (by kernel_rfl) (by kernel_rfl) ?_; conv => whnf)
      | (refine Fc.use (c_works) ?_ ?_; (focus ((repeat' constructor); done)); conv => whnf)
      | (refine CallQ.of (c_works) ?_ ?_; (focus ((repeat' constructor); done)); conv => whnf)
      | (refine Fc.use (fa) ?_ ?_; (focus ((repeat' constructor); done)); conv => whnf)
      | (refine CallQ.of (fa) ?_ ?_; (focus ((repeat' constructor); done)); conv => whnf)
      | (refine Fc.use (fe) ?_ ?_; (focus ((repeat' constructor); done)); conv => whnf)
      | (refine CallQ.of (fe) ?_ ?_; (focus ((repeat' constructor); done)); conv => whnf)
      | (refine Fc.use (ka) ?_ ?_; (focus ((repeat' constructor); done)); conv => whnf)
      | (refine CallQ.of (ka) ?_ ?_; (focus ((repeat' constructor); done)); conv => whnf)
      | (refine Fc.use (ra) ?_ ?_; (focus ((repeat' constructor); done)); conv => whnf)
      | (refine CallQ.of (ra) ?_ ?_; (focus ((repeat' constructor); done)); conv => whnf)
      | (refine Fc.use (kw) ?_ ?_; (focus ((repeat' constructor); done)); conv => whnf)
      | (refine CallQ.of (kw) ?_ ?_; (focus ((repeat' constructor); done)); conv => whnf)
      | (refine Fc.use (rw') ?_ ?_; (focus ((repeat' constructor); done)); conv => whnf)
      | (refine CallQ.of (rw') ?_ ?_; (focus ((repeat' constructor); done)); conv => whnf)
      | (refine Fc.use (kg) ?_ ?_; (focus ((repeat' constructor); done)); conv => whnf)
      | (refine CallQ.of (kg) ?_ ?_; (focus ((repeat' constructor); done)); conv => whnf)
      | (refine Fc.use (rg) ?_ ?_; (focus ((repeat' constructor); done)); conv => whnf)
      | (refine CallQ.of (rg) ?_ ?_; (focus ((repeat' constructor); done)); conv => whnf)
      | (refine Fc.use (o0) ?_ ?_; (focus ((repeat' constructor); done)); conv => whnf)
      | (refine CallQ.of (o0) ?_ ?_; (focus ((repeat' constructor); done)); conv => whnf)
      | (refine Fc.use (o1) ?_ ?_; (focus ((repeat' constructor); done)); conv => whnf)
      | (refine CallQ.of (o1) ?_ ?_; (focus ((repeat' constructor); done)); conv => whnf)
      | (refine Fc.use (o2) ?_ ?_; (focus ((repeat' constructor); done)); conv => whnf)
      | (refine CallQ.of (o2) ?_ ?_; (focus ((repeat' constructor); done)); conv => whnf)
      | (refine Fc.use (o3) ?_ ?_; (focus ((repeat' constructor); done)); conv => whnf)
      | (refine CallQ.of (o3) ?_ ?_; (focus ((repeat' constructor); done)); conv => whnf)
      | (refine Fc.use (s1) ?_ ?_; (focus ((repeat' constructor); done)); conv => whnf)
      | (refine CallQ.of (s1) ?_ ?_; (focus ((repeat' constructor); done)); conv => whnf)
      | (refine Fc.use (s2) ?_ ?_; (focus ((repeat' constructor); done)); conv => whnf)
      | (refine CallQ.of (s2) ?_ ?_; (focus ((repeat' constructor); done)); conv => whnf)
      | (refine Fc.use (s3) ?_ ?_; (focus ((repeat' constructor); done)); conv => whnf)
      | (refine CallQ.of (s3) ?_ ?_; (focus ((repeat' constructor); done)); conv => whnf)
      | rfl
      | exact True.intro
      | (refine And.intro ?_ ?_ <;> conv => whnf))
    all_goals first | rfl | skip
    all_goals trace_state
end Go.Proofs.YtmjpidjdbofdjaaGreat

