import Derived.Test.YtmjpidjdbofdjaaGreatPg
/- The law ProbeDone. -/
set_option linter.unusedVariables false
set_option linter.unusedSimpArgs false
set_option maxRecDepth 100000
set_option maxHeartbeats 1600000
namespace Go.Proofs.YtmjpidjdbofdjaaGreat
open Go Go.Sy
theorem arFew.len {a : Ar} (h : arOk a) : a.slots.length ≤ 8 := by have h1 := h.2.1; have h2 := h.2.2.1; omega
theorem giveF_es {a : Ar} {f : Fra} (hf : frOk f) (ht : f.typ = 4) (h : arOk a) : ∃ k, giveF a f 8 = ⟨k, 0, 0, 0, 0, 0, 0, a.slots.filter (inM f.a)⟩ ∧ (¬ giveB a f 8 → a.slots.filter (inM f.a) = []) := by
  have hi := inF_all h f.a
  unfold giveF
  by_cases hg : giveB a f 8
  · rw [if_pos hg, hi]
    exact ⟨5, rfl, fun hn => absurd hg hn⟩
  · rw [if_neg hg]
    have : inF a f.a 8 = [] := Classical.byContradiction fun hq => hg ⟨⟨hf, ht, by omega, by omega⟩, hq⟩
    rw [← hi, this]
    exact ⟨0, rfl, fun _ => rfl⟩
theorem c_ProbeDone (a b : Ar) (wa : a.fw) (wb : b.fw) : Fc Tryz.prog n_ouroboroslaw18_ProbeDone [a.sv, b.sv] (sb true) := by
  have bb : blwL 0 [a.sv, b.sv] = true := blwL_cons (blw_ar 0 a) (blwL_one (blw_ar 0 b))
  have fa := c_law08_Few a
  have fb := c_law08_Few b
  by_cases h1 : arFew a
  case neg =>
    rw [decide_eq_false h1] at fa
    refine Fc.of_body tabOk q_ouroboroslaw18_ProbeDone (by kernel_rfl) (bb) (rfl) ?_
    conv => whnf
    repeat' (first
      | (refine bltG (by first | omega | (simp only [List.length_map] at *; omega)) ?_; conv => whnf)
      | (refine ndG (by assumption) ?_; conv => whnf)
      | (refine mulG ?_; conv => whnf)
      | (refine And.intro rfl ?_; conv => whnf)
      | (refine dsT (by assumption) ?_; conv => whnf)
      | (refine dsF (by assumption) ?_; conv => whnf)
      | (refine nsT (by assumption) ?_; conv => whnf)
      | (refine nsF (by assumption) ?_; conv => whnf)
      | (refine bsT (by assumption) ?_; conv => whnf)
      | (refine bsF (by assumption) ?_; conv => whnf)
      | (refine dsp ?_ ?_ <;> intro _ <;> conv => whnf)
      | (refine nsp ?_ ?_ <;> intro _ <;> conv => whnf)
      | (refine cnd_true (by assumption) ?_; conv => whnf)
      | (refine cnd_false (by assumption) ?_; conv => whnf)
      | (refine cnd_split ?_ ?_ <;> intro _ <;> conv => whnf)
      | (refine Cd.par tabOk (by kernel_rfl) (by kernel_rfl) ?_; conv => whnf)
      | (refine Fc.use (c_works) ?_ ?_; (focus ((repeat' constructor); done)); conv => whnf)
      | (refine CallQ.of (c_works) ?_ ?_; (focus ((repeat' constructor); done)); conv => whnf)
      | (refine Fc.use (fa) ?_ ?_; (focus ((repeat' constructor); done)); conv => whnf)
      | (refine CallQ.of (fa) ?_ ?_; (focus ((repeat' constructor); done)); conv => whnf))
    all_goals rfl
  by_cases h2 : arFew b
  case neg =>
    rw [decide_eq_true h1] at fa
    rw [decide_eq_false h2] at fb
    refine Fc.of_body tabOk q_ouroboroslaw18_ProbeDone (by kernel_rfl) (bb) (rfl) ?_
    conv => whnf
    repeat' (first
      | (refine bltG (by first | omega | (simp only [List.length_map] at *; omega)) ?_; conv => whnf)
      | (refine ndG (by assumption) ?_; conv => whnf)
      | (refine mulG ?_; conv => whnf)
      | (refine And.intro rfl ?_; conv => whnf)
      | (refine dsT (by assumption) ?_; conv => whnf)
      | (refine dsF (by assumption) ?_; conv => whnf)
      | (refine nsT (by assumption) ?_; conv => whnf)
      | (refine nsF (by assumption) ?_; conv => whnf)
      | (refine bsT (by assumption) ?_; conv => whnf)
      | (refine bsF (by assumption) ?_; conv => whnf)
      | (refine dsp ?_ ?_ <;> intro _ <;> conv => whnf)
      | (refine nsp ?_ ?_ <;> intro _ <;> conv => whnf)
      | (refine cnd_true (by assumption) ?_; conv => whnf)
      | (refine cnd_false (by assumption) ?_; conv => whnf)
      | (refine cnd_split ?_ ?_ <;> intro _ <;> conv => whnf)
      | (refine Cd.par tabOk (by kernel_rfl) (by kernel_rfl) ?_; conv => whnf)
      | (refine Fc.use (c_works) ?_ ?_; (focus ((repeat' constructor); done)); conv => whnf)
      | (refine CallQ.of (c_works) ?_ ?_; (focus ((repeat' constructor); done)); conv => whnf)
      | (refine Fc.use (fa) ?_ ?_; (focus ((repeat' constructor); done)); conv => whnf)
      | (refine CallQ.of (fa) ?_ ?_; (focus ((repeat' constructor); done)); conv => whnf)
      | (refine Fc.use (fb) ?_ ?_; (focus ((repeat' constructor); done)); conv => whnf)
      | (refine CallQ.of (fb) ?_ ?_; (focus ((repeat' constructor); done)); conv => whnf))
    all_goals rfl
  rw [decide_eq_true h1] at fa
  rw [decide_eq_true h2] at fb
  have ha := h1.bd
  have hb := h2.bd
  have ca := c_arena_Check a ha
  have cb := c_arena_Check b hb
  unfold en at ca cb
  by_cases k1 : arOk a
  case neg =>
    rw [if_neg k1] at ca
    refine Fc.of_body tabOk q_ouroboroslaw18_ProbeDone (by kernel_rfl) (bb) (rfl) ?_
    conv => whnf
    repeat' (first
      | (refine bltG (by first | omega | (simp only [List.length_map] at *; omega)) ?_; conv => whnf)
      | (refine ndG (by assumption) ?_; conv => whnf)
      | (refine mulG ?_; conv => whnf)
      | (refine And.intro rfl ?_; conv => whnf)
      | (refine dsT (by assumption) ?_; conv => whnf)
      | (refine dsF (by assumption) ?_; conv => whnf)
      | (refine nsT (by assumption) ?_; conv => whnf)
      | (refine nsF (by assumption) ?_; conv => whnf)
      | (refine bsT (by assumption) ?_; conv => whnf)
      | (refine bsF (by assumption) ?_; conv => whnf)
      | (refine dsp ?_ ?_ <;> intro _ <;> conv => whnf)
      | (refine nsp ?_ ?_ <;> intro _ <;> conv => whnf)
      | (refine cnd_true (by assumption) ?_; conv => whnf)
      | (refine cnd_false (by assumption) ?_; conv => whnf)
      | (refine cnd_split ?_ ?_ <;> intro _ <;> conv => whnf)
      | (refine Cd.par tabOk (by kernel_rfl) (by kernel_rfl) ?_; conv => whnf)
      | (refine Fc.use (c_works) ?_ ?_; (focus ((repeat' constructor); done)); conv => whnf)
      | (refine CallQ.of (c_works) ?_ ?_; (focus ((repeat' constructor); done)); conv => whnf)
      | (refine Fc.use (fa) ?_ ?_; (focus ((repeat' constructor); done)); conv => whnf)
      | (refine CallQ.of (fa) ?_ ?_; (focus ((repeat' constructor); done)); conv => whnf)
      | (refine Fc.use (fb) ?_ ?_; (focus ((repeat' constructor); done)); conv => whnf)
      | (refine CallQ.of (fb) ?_ ?_; (focus ((repeat' constructor); done)); conv => whnf)
      | (refine Fc.use (ca) ?_ ?_; (focus ((repeat' constructor); done)); conv => whnf)
      | (refine CallQ.of (ca) ?_ ?_; (focus ((repeat' constructor); done)); conv => whnf))
    all_goals rfl
  by_cases k2 : arOk b
  case neg =>
    rw [if_pos k1] at ca
    rw [if_neg k2] at cb
    refine Fc.of_body tabOk q_ouroboroslaw18_ProbeDone (by kernel_rfl) (bb) (rfl) ?_
    conv => whnf
    repeat' (first
      | (refine bltG (by first | omega | (simp only [List.length_map] at *; omega)) ?_; conv => whnf)
      | (refine ndG (by assumption) ?_; conv => whnf)
      | (refine mulG ?_; conv => whnf)
      | (refine And.intro rfl ?_; conv => whnf)
      | (refine dsT (by assumption) ?_; conv => whnf)
      | (refine dsF (by assumption) ?_; conv => whnf)
      | (refine nsT (by assumption) ?_; conv => whnf)
      | (refine nsF (by assumption) ?_; conv => whnf)
      | (refine bsT (by assumption) ?_; conv => whnf)
      | (refine bsF (by assumption) ?_; conv => whnf)
      | (refine dsp ?_ ?_ <;> intro _ <;> conv => whnf)
      | (refine nsp ?_ ?_ <;> intro _ <;> conv => whnf)
      | (refine cnd_true (by assumption) ?_; conv => whnf)
      | (refine cnd_false (by assumption) ?_; conv => whnf)
      | (refine cnd_split ?_ ?_ <;> intro _ <;> conv => whnf)
      | (refine Cd.par tabOk (by kernel_rfl) (by kernel_rfl) ?_; conv => whnf)
      | (refine Fc.use (c_works) ?_ ?_; (focus ((repeat' constructor); done)); conv => whnf)
      | (refine CallQ.of (c_works) ?_ ?_; (focus ((repeat' constructor); done)); conv => whnf)
      | (refine Fc.use (fa) ?_ ?_; (focus ((repeat' constructor); done)); conv => whnf)
      | (refine CallQ.of (fa) ?_ ?_; (focus ((repeat' constructor); done)); conv => whnf)
      | (refine Fc.use (fb) ?_ ?_; (focus ((repeat' constructor); done)); conv => whnf)
      | (refine CallQ.of (fb) ?_ ?_; (focus ((repeat' constructor); done)); conv => whnf)
      | (refine Fc.use (ca) ?_ ?_; (focus ((repeat' constructor); done)); conv => whnf)
      | (refine CallQ.of (ca) ?_ ?_; (focus ((repeat' constructor); done)); conv => whnf)
      | (refine Fc.use (cb) ?_ ?_; (focus ((repeat' constructor); done)); conv => whnf)
      | (refine CallQ.of (cb) ?_ ?_; (focus ((repeat' constructor); done)); conv => whnf))
    all_goals rfl
  rw [if_pos k1] at ca
  rw [if_pos k2] at cb
  have la := arFew.len k1
  have lb := arFew.len k2
  have m1 := c_arena_Merge a b.slots ha hb.1 (by omega)
  have m2 := c_arena_Merge b a.slots hb ha.1 (by omega)
  have ka := c_probe_Ask a ha
  have kw := c_Want b hb (askF a) (askF_bd a) 8
  have r1 := @mrg_ref a b.slots
  have r2 := @mrg_ref b a.slots
  generalize (mrg a b.slots).2.1 = u1 at *
  generalize (mrg b a.slots).2.1 = u2 at *
  generalize (mrg a b.slots).2.2 = v1 at *
  generalize (mrg b a.slots).2.2 = v2 at *
  generalize (mrg a b.slots).1 = J1 at *
  generalize (mrg b a.slots).1 = J2 at *
  by_cases hv : (v1 = 0 ∧ v2 = 0) ∧ wantB b (askF a) 8
  case neg =>
    generalize hwb : decide (wantB b (askF a) 8) = wb' at kw
    generalize wantF b (askF a) 8 = wf at kw
    have hv' : v1 = 0 → v2 = 0 → wb' = false := fun q1 q2 => by
      rw [← hwb]
      exact decide_eq_false fun hq => hv ⟨⟨q1, q2⟩, hq⟩
    clear hv hwb r1 r2
    generalize askF a = FAa at *
    refine Fc.of_body tabOk q_ouroboroslaw18_ProbeDone (by kernel_rfl) (bb) (rfl) ?_
    conv => whnf
    repeat' (first
      | (refine Cd.parT tabOk (by kernel_rfl) [7, 8] rfl ?_; conv => whnf)
      | (refine bltG (by first | omega | (simp only [List.length_map] at *; omega)) ?_; conv => whnf)
      | (refine ndG (by assumption) ?_; conv => whnf)
      | (refine mulG ?_; conv => whnf)
      | (refine And.intro rfl ?_; conv => whnf)
      | (refine dsT (by assumption) ?_; conv => whnf)
      | (refine dsF (by assumption) ?_; conv => whnf)
      | (refine nsT (by assumption) ?_; conv => whnf)
      | (refine nsF (by assumption) ?_; conv => whnf)
      | (refine bsT (by assumption) ?_; conv => whnf)
      | (refine bsF (by assumption) ?_; conv => whnf)
      | (refine dsp ?_ ?_ <;> intro _ <;> conv => whnf)
      | (refine nsp ?_ ?_ <;> intro _ <;> conv => whnf)
      | (refine cnd_true (by assumption) ?_; conv => whnf)
      | (refine cnd_false (by assumption) ?_; conv => whnf)
      | (refine cnd_split ?_ ?_ <;> intro _ <;> conv => whnf)
      | (refine Cd.par tabOk (by kernel_rfl) (by kernel_rfl) ?_; conv => whnf)
      | (refine Fc.use (c_works) ?_ ?_; (focus ((repeat' constructor); done)); conv => whnf)
      | (refine CallQ.of (c_works) ?_ ?_; (focus ((repeat' constructor); done)); conv => whnf)
      | (refine Fc.use (fa) ?_ ?_; (focus ((repeat' constructor); done)); conv => whnf)
      | (refine CallQ.of (fa) ?_ ?_; (focus ((repeat' constructor); done)); conv => whnf)
      | (refine Fc.use (fb) ?_ ?_; (focus ((repeat' constructor); done)); conv => whnf)
      | (refine CallQ.of (fb) ?_ ?_; (focus ((repeat' constructor); done)); conv => whnf)
      | (refine Fc.use (ca) ?_ ?_; (focus ((repeat' constructor); done)); conv => whnf)
      | (refine CallQ.of (ca) ?_ ?_; (focus ((repeat' constructor); done)); conv => whnf)
      | (refine Fc.use (cb) ?_ ?_; (focus ((repeat' constructor); done)); conv => whnf)
      | (refine CallQ.of (cb) ?_ ?_; (focus ((repeat' constructor); done)); conv => whnf)
      | (refine Fc.use (m1) ?_ ?_; (focus ((repeat' constructor); done)); conv => whnf)
      | (refine CallQ.of (m1) ?_ ?_; (focus ((repeat' constructor); done)); conv => whnf)
      | (refine Fc.use (m2) ?_ ?_; (focus ((repeat' constructor); done)); conv => whnf)
      | (refine CallQ.of (m2) ?_ ?_; (focus ((repeat' constructor); done)); conv => whnf)
      | (refine Fc.use (ka) ?_ ?_; (focus ((repeat' constructor); done)); conv => whnf)
      | (refine CallQ.of (ka) ?_ ?_; (focus ((repeat' constructor); done)); conv => whnf)
      | (refine Fc.use (kw) ?_ ?_; (focus ((repeat' constructor); done)); conv => whnf)
      | (refine CallQ.of (kw) ?_ ?_; (focus ((repeat' constructor); done)); conv => whnf)
      | rfl
      | exact True.intro
      | (refine And.intro ?_ ?_ <;> conv => whnf))
    all_goals first
      | rfl
      | (exfalso
         have q := hv' (by omega) (by omega)
         subst q
         exact absurd ‹(!false) = false› (by decide))
  obtain ⟨⟨rfl, rfl⟩, hw⟩ := hv
  have two : Two a b := ⟨k1, k2, wa, wb, r1.1 rfl, r2.1 rfl⟩
  rw [decide_eq_true hw] at kw
  have hfok := wantF_ok hw
  have hwf : wantF b (askF a) 8 = ⟨4, mskF b (askF a), 0, 0, 0, 0, 0, b.slots.filter (inM (mskF b (askF a)))⟩ := by rw [show wantF b (askF a) 8 = _ from if_pos hw, inF_all k2]
  rw [hwf] at kw hfok
  have hdone := two.done (mask := mskF b (askF a)) rfl
  obtain ⟨kk, hgf, _⟩ := giveF_es hfok rfl k1
  have hwbd := wantF_bd b (askF a) 8
  rw [hwf] at hwbd
  have kg := c_Give a ha _ hwbd 8
  rw [hgf] at kg
  dsimp only at kg
  generalize decide (giveB a _ 8) = gb at kg
  generalize askF a = FAa at *
  generalize mskF b FAa = M at *
  have m3 := c_arena_Merge a (b.slots.filter (inM M)) ha (fun e he => hb.1 e (List.mem_filter.1 he).1) (Nat.le_trans (List.length_filter_le ..) (by omega))
  have m4 := c_arena_Merge b (a.slots.filter (inM M)) hb (fun e he => ha.1 e (List.mem_filter.1 he).1) (Nat.le_trans (List.length_filter_le ..) (by omega))
  have bC := mrg_bd ha (b.slots.filter (inM M))
  have bD := mrg_bd hb (a.slots.filter (inM M))
  rw [mrg_is] at m3 m4 bC bD
  have s1 := c_Sums _ bC
  have s2 := c_Sums _ bD
  generalize (mrg a (b.slots.filter (inM M))).2.1 = u3 at *
  generalize (mrg b (a.slots.filter (inM M))).2.1 = u4 at *
  generalize (mrg a (b.slots.filter (inM M))).2.2 = v3 at *
  generalize (mrg b (a.slots.filter (inM M))).2.2 = v4 at *
  generalize mergeA a (b.slots.filter (inM M)) = C at *
  generalize mergeA b (a.slots.filter (inM M)) = D at *
  generalize b.slots.filter (inM M) = wl at *
  generalize a.slots.filter (inM M) = gl at *
  have kd := c_digest_Differ (smF C 0) (smF C 1) (smF C 2) (smF C 3) (smF D 0) (smF D 1) (smF D 2) (smF D 3)
  generalize dif (smF C 0) (smF C 1) (smF C 2) (smF C 3) (smF D 0) (smF D 1) (smF D 2) (smF D 3) = Df at *
  refine Fc.of_body tabOk q_ouroboroslaw18_ProbeDone (by kernel_rfl) (bb) (rfl) ?_
  conv => whnf
  repeat' (first
    | (refine Cd.parT tabOk (by kernel_rfl) [7, 8] rfl ?_; conv => whnf)
    | (refine bltG (by first | omega | (simp only [List.length_map] at *; omega)) ?_; conv => whnf)
    | (refine ndG (by assumption) ?_; conv => whnf)
    | (refine mulG ?_; conv => whnf)
    | (refine And.intro rfl ?_; conv => whnf)
    | (refine dsT (by assumption) ?_; conv => whnf)
    | (refine dsF (by assumption) ?_; conv => whnf)
    | (refine nsT (by assumption) ?_; conv => whnf)
    | (refine nsF (by assumption) ?_; conv => whnf)
    | (refine bsT (by assumption) ?_; conv => whnf)
    | (refine bsF (by assumption) ?_; conv => whnf)
    | (refine dsp ?_ ?_ <;> intro _ <;> conv => whnf)
    | (refine nsp ?_ ?_ <;> intro _ <;> conv => whnf)
    | (refine cnd_true (by assumption) ?_; conv => whnf)
    | (refine cnd_false (by assumption) ?_; conv => whnf)
    | (refine cnd_split ?_ ?_ <;> intro _ <;> conv => whnf)
    | (refine Cd.par tabOk (by kernel_rfl) (by kernel_rfl) ?_; conv => whnf)
    | (refine Fc.use (c_works) ?_ ?_; (focus ((repeat' constructor); done)); conv => whnf)
    | (refine CallQ.of (c_works) ?_ ?_; (focus ((repeat' constructor); done)); conv => whnf)
    | (refine Fc.use (fa) ?_ ?_; (focus ((repeat' constructor); done)); conv => whnf)
    | (refine CallQ.of (fa) ?_ ?_; (focus ((repeat' constructor); done)); conv => whnf)
    | (refine Fc.use (fb) ?_ ?_; (focus ((repeat' constructor); done)); conv => whnf)
    | (refine CallQ.of (fb) ?_ ?_; (focus ((repeat' constructor); done)); conv => whnf)
    | (refine Fc.use (ca) ?_ ?_; (focus ((repeat' constructor); done)); conv => whnf)
    | (refine CallQ.of (ca) ?_ ?_; (focus ((repeat' constructor); done)); conv => whnf)
    | (refine Fc.use (cb) ?_ ?_; (focus ((repeat' constructor); done)); conv => whnf)
    | (refine CallQ.of (cb) ?_ ?_; (focus ((repeat' constructor); done)); conv => whnf)
    | (refine Fc.use (m1) ?_ ?_; (focus ((repeat' constructor); done)); conv => whnf)
    | (refine CallQ.of (m1) ?_ ?_; (focus ((repeat' constructor); done)); conv => whnf)
    | (refine Fc.use (m2) ?_ ?_; (focus ((repeat' constructor); done)); conv => whnf)
    | (refine CallQ.of (m2) ?_ ?_; (focus ((repeat' constructor); done)); conv => whnf)
    | (refine Fc.use (ka) ?_ ?_; (focus ((repeat' constructor); done)); conv => whnf)
    | (refine CallQ.of (ka) ?_ ?_; (focus ((repeat' constructor); done)); conv => whnf)
    | (refine Fc.use (kw) ?_ ?_; (focus ((repeat' constructor); done)); conv => whnf)
    | (refine CallQ.of (kw) ?_ ?_; (focus ((repeat' constructor); done)); conv => whnf)
    | (refine Fc.use (kg) ?_ ?_; (focus ((repeat' constructor); done)); conv => whnf)
    | (refine CallQ.of (kg) ?_ ?_; (focus ((repeat' constructor); done)); conv => whnf)
    | (refine Fc.use (m3) ?_ ?_; (focus ((repeat' constructor); done)); conv => whnf)
    | (refine CallQ.of (m3) ?_ ?_; (focus ((repeat' constructor); done)); conv => whnf)
    | (refine Fc.use (m4) ?_ ?_; (focus ((repeat' constructor); done)); conv => whnf)
    | (refine CallQ.of (m4) ?_ ?_; (focus ((repeat' constructor); done)); conv => whnf)
    | (refine Fc.use (s1) ?_ ?_; (focus ((repeat' constructor); done)); conv => whnf)
    | (refine CallQ.of (s1) ?_ ?_; (focus ((repeat' constructor); done)); conv => whnf)
    | (refine Fc.use (s2) ?_ ?_; (focus ((repeat' constructor); done)); conv => whnf)
    | (refine CallQ.of (s2) ?_ ?_; (focus ((repeat' constructor); done)); conv => whnf)
    | (refine Fc.use (kd) ?_ ?_; (focus ((repeat' constructor); done)); conv => whnf)
    | (refine CallQ.of (kd) ?_ ?_; (focus ((repeat' constructor); done)); conv => whnf)
    | rfl
    | exact True.intro
    | (refine And.intro ?_ ?_ <;> conv => whnf))
  all_goals first | rfl | exact stT hdone
end Go.Proofs.YtmjpidjdbofdjaaGreat

