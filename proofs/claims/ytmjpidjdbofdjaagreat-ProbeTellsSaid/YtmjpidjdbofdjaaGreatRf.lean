import Derived.Test.YtmjpidjdbofdjaaGreatRe
/- Contracts of the references: frames. -/
set_option linter.unusedVariables false
set_option linter.unusedSimpArgs false
set_option maxRecDepth 100000
set_option maxHeartbeats 1600000
namespace Go.Proofs.YtmjpidjdbofdjaaGreat
open Go Go.Sy
instance (a b c d : Int) : Decidable (digOk a b c d) := by unfold digOk; infer_instance
theorem r_dig_Put (a b c d : Int) (ha : a ≤ 9223372036854775807) (hb : b ≤ 9223372036854775807) (hc : c ≤ 9223372036854775807) (hd : d ≤ 9223372036854775807) :
    Fc Tryz.prog n_ouroborosref10_Put [dig a b c d] (.tup [ss (if digOk a b c d then ⟨#[]⟩ ++ num4 a ++ num4 b ++ num4 c ++ num4 d else ⟨#[]⟩), iv (if digOk a b c d then 0 else 1)]) := by
  have pa := r_Put4 a ha
  have pb := r_Put4 b hb
  have pc := r_Put4 c hc
  have pd := r_Put4 d hd
  have za := num4_le a
  have zb := num4_le b
  have zc := num4_le c
  have zd := num4_le d
  have z0 : (⟨#[]⟩ : ByteArray).size = 0 := rfl
  have h1 : (⟨#[]⟩ : ByteArray).size + (num4 a).size ≤ 9223372036854775807 := by omega
  have h2 : ((⟨#[]⟩ : ByteArray) ++ num4 a).size + (num4 b).size ≤ 9223372036854775807 := by simp only [ByteArray.size_append]; omega
  have h3 : ((⟨#[]⟩ : ByteArray) ++ num4 a ++ num4 b).size + (num4 c).size ≤ 9223372036854775807 := by simp only [ByteArray.size_append]; omega
  have h4 : ((⟨#[]⟩ : ByteArray) ++ num4 a ++ num4 b ++ num4 c).size + (num4 d).size ≤ 9223372036854775807 := by simp only [ByteArray.size_append]; omega
  by_cases ka : octOk a
  case neg =>
    rw [if_neg (fun h : digOk a b c d => ka h.1), if_neg (fun h : digOk a b c d => ka h.1)]
    rw [if_neg ka] at pa
    refine Fc.of_body tabOk q_ouroborosref10_Put (by kernel_rfl) (rfl) (rfl) ?_
    conv => whnf
    repeat' (first
      | (refine bltG (by first | omega | (simp only [List.length_map] at *; omega)) ?_; conv => whnf)
      | (refine ndG (by assumption) ?_; conv => whnf)
      | (refine mulG ?_; conv => whnf)
      | (refine And.intro rfl ?_; conv => whnf)
      | (refine dsT (by assumption) ?_; conv => whnf)
      | (refine dsF (by assumption) ?_; conv => whnf)
      | (refine nsT (by assumption) ?_; conv => whnf)
      | (refine nsF (by assumption) ?_; conv => whnf)
      | (refine bsT (by assumption) ?_; conv => whnf)
      | (refine bsF (by assumption) ?_; conv => whnf)
      | (refine dsp ?_ ?_ <;> intro _ <;> conv => whnf)
      | (refine nsp ?_ ?_ <;> intro _ <;> conv => whnf)
      | (refine cnd_true (by assumption) ?_; conv => whnf)
      | (refine cnd_false (by assumption) ?_; conv => whnf)
      | (refine cnd_split ?_ ?_ <;> intro _ <;> conv => whnf)
      | (refine Cd.par tabOk (by kernel_rfl) (by kernel_rfl) ?_; conv => whnf)
      | (refine Fc.use (pa) ?_ ?_; (focus ((repeat' constructor); done)); conv => whnf)
      | (refine CallQ.of (pa) ?_ ?_; (focus ((repeat' constructor); done)); conv => whnf)
      | (refine Cd.unroll tabOk 1 ?_; conv => whnf))
    all_goals first | rfl | (repeat' constructor)
  rw [if_pos ka] at pa
  by_cases kb : octOk b
  case neg =>
    rw [if_neg (fun h : digOk a b c d => kb h.2.1), if_neg (fun h : digOk a b c d => kb h.2.1)]
    rw [if_neg kb] at pb
    refine Fc.of_body tabOk q_ouroborosref10_Put (by kernel_rfl) (rfl) (rfl) ?_
    conv => whnf
    repeat' (first
      | (refine addSz h1 ?_; conv => whnf)
      | (refine bltG (by first | omega | (simp only [List.length_map] at *; omega)) ?_; conv => whnf)
      | (refine ndG (by assumption) ?_; conv => whnf)
      | (refine mulG ?_; conv => whnf)
      | (refine And.intro rfl ?_; conv => whnf)
      | (refine dsT (by assumption) ?_; conv => whnf)
      | (refine dsF (by assumption) ?_; conv => whnf)
      | (refine nsT (by assumption) ?_; conv => whnf)
      | (refine nsF (by assumption) ?_; conv => whnf)
      | (refine bsT (by assumption) ?_; conv => whnf)
      | (refine bsF (by assumption) ?_; conv => whnf)
      | (refine dsp ?_ ?_ <;> intro _ <;> conv => whnf)
      | (refine nsp ?_ ?_ <;> intro _ <;> conv => whnf)
      | (refine cnd_true (by assumption) ?_; conv => whnf)
      | (refine cnd_false (by assumption) ?_; conv => whnf)
      | (refine cnd_split ?_ ?_ <;> intro _ <;> conv => whnf)
      | (refine Cd.par tabOk (by kernel_rfl) (by kernel_rfl) ?_; conv => whnf)
      | (refine Fc.use (pa) ?_ ?_; (focus ((repeat' constructor); done)); conv => whnf)
      | (refine CallQ.of (pa) ?_ ?_; (focus ((repeat' constructor); done)); conv => whnf)
      | (refine Fc.use (pb) ?_ ?_; (focus ((repeat' constructor); done)); conv => whnf)
      | (refine CallQ.of (pb) ?_ ?_; (focus ((repeat' constructor); done)); conv => whnf)
      | (refine Cd.unroll tabOk 2 ?_; conv => whnf))
    all_goals first | rfl | (repeat' constructor)
  rw [if_pos kb] at pb
  by_cases kc : octOk c
  case neg =>
    rw [if_neg (fun h : digOk a b c d => kc h.2.2.1), if_neg (fun h : digOk a b c d => kc h.2.2.1)]
    rw [if_neg kc] at pc
    refine Fc.of_body tabOk q_ouroborosref10_Put (by kernel_rfl) (rfl) (rfl) ?_
    conv => whnf
    repeat' (first
      | (refine addSz h2 ?_; conv => whnf)
      | (refine addSz h1 ?_; conv => whnf)
      | (refine bltG (by first | omega | (simp only [List.length_map] at *; omega)) ?_; conv => whnf)
      | (refine ndG (by assumption) ?_; conv => whnf)
      | (refine mulG ?_; conv => whnf)
      | (refine And.intro rfl ?_; conv => whnf)
      | (refine dsT (by assumption) ?_; conv => whnf)
      | (refine dsF (by assumption) ?_; conv => whnf)
      | (refine nsT (by assumption) ?_; conv => whnf)
      | (refine nsF (by assumption) ?_; conv => whnf)
      | (refine bsT (by assumption) ?_; conv => whnf)
      | (refine bsF (by assumption) ?_; conv => whnf)
      | (refine dsp ?_ ?_ <;> intro _ <;> conv => whnf)
      | (refine nsp ?_ ?_ <;> intro _ <;> conv => whnf)
      | (refine cnd_true (by assumption) ?_; conv => whnf)
      | (refine cnd_false (by assumption) ?_; conv => whnf)
      | (refine cnd_split ?_ ?_ <;> intro _ <;> conv => whnf)
      | (refine Cd.par tabOk (by kernel_rfl) (by kernel_rfl) ?_; conv => whnf)
      | (refine Fc.use (pa) ?_ ?_; (focus ((repeat' constructor); done)); conv => whnf)
      | (refine CallQ.of (pa) ?_ ?_; (focus ((repeat' constructor); done)); conv => whnf)
      | (refine Fc.use (pb) ?_ ?_; (focus ((repeat' constructor); done)); conv => whnf)
      | (refine CallQ.of (pb) ?_ ?_; (focus ((repeat' constructor); done)); conv => whnf)
      | (refine Fc.use (pc) ?_ ?_; (focus ((repeat' constructor); done)); conv => whnf)
      | (refine CallQ.of (pc) ?_ ?_; (focus ((repeat' constructor); done)); conv => whnf)
      | (refine Cd.unroll tabOk 3 ?_; conv => whnf))
    all_goals first | rfl | (repeat' constructor)
  rw [if_pos kc] at pc
  by_cases kd : octOk d
  case neg =>
    rw [if_neg (fun h : digOk a b c d => kd h.2.2.2), if_neg (fun h : digOk a b c d => kd h.2.2.2)]
    rw [if_neg kd] at pd
    refine Fc.of_body tabOk q_ouroborosref10_Put (by kernel_rfl) (rfl) (rfl) ?_
    conv => whnf
    repeat' (first
      | (refine addSz h3 ?_; conv => whnf)
      | (refine addSz h2 ?_; conv => whnf)
      | (refine addSz h1 ?_; conv => whnf)
      | (refine bltG (by first | omega | (simp only [List.length_map] at *; omega)) ?_; conv => whnf)
      | (refine ndG (by assumption) ?_; conv => whnf)
      | (refine mulG ?_; conv => whnf)
      | (refine And.intro rfl ?_; conv => whnf)
      | (refine dsT (by assumption) ?_; conv => whnf)
      | (refine dsF (by assumption) ?_; conv => whnf)
      | (refine nsT (by assumption) ?_; conv => whnf)
      | (refine nsF (by assumption) ?_; conv => whnf)
      | (refine bsT (by assumption) ?_; conv => whnf)
      | (refine bsF (by assumption) ?_; conv => whnf)
      | (refine dsp ?_ ?_ <;> intro _ <;> conv => whnf)
      | (refine nsp ?_ ?_ <;> intro _ <;> conv => whnf)
      | (refine cnd_true (by assumption) ?_; conv => whnf)
      | (refine cnd_false (by assumption) ?_; conv => whnf)
      | (refine cnd_split ?_ ?_ <;> intro _ <;> conv => whnf)
      | (refine Cd.par tabOk (by kernel_rfl) (by kernel_rfl) ?_; conv => whnf)
      | (refine Fc.use (pa) ?_ ?_; (focus ((repeat' constructor); done)); conv => whnf)
      | (refine CallQ.of (pa) ?_ ?_; (focus ((repeat' constructor); done)); conv => whnf)
      | (refine Fc.use (pb) ?_ ?_; (focus ((repeat' constructor); done)); conv => whnf)
      | (refine CallQ.of (pb) ?_ ?_; (focus ((repeat' constructor); done)); conv => whnf)
      | (refine Fc.use (pc) ?_ ?_; (focus ((repeat' constructor); done)); conv => whnf)
      | (refine CallQ.of (pc) ?_ ?_; (focus ((repeat' constructor); done)); conv => whnf)
      | (refine Fc.use (pd) ?_ ?_; (focus ((repeat' constructor); done)); conv => whnf)
      | (refine CallQ.of (pd) ?_ ?_; (focus ((repeat' constructor); done)); conv => whnf)
      | (refine Cd.unroll tabOk 4 ?_; conv => whnf))
    all_goals first | rfl | (repeat' constructor)
  rw [if_pos kd] at pd
  have hk : digOk a b c d := ⟨ka, kb, kc, kd⟩
  rw [if_pos hk, if_pos hk]
  refine Fc.of_body tabOk q_ouroborosref10_Put (by kernel_rfl) (rfl) (rfl) ?_
  conv => whnf
  repeat' (first
    | (refine addSz h4 ?_; conv => whnf)
    | (refine addSz h3 ?_; conv => whnf)
    | (refine addSz h2 ?_; conv => whnf)
    | (refine addSz h1 ?_; conv => whnf)
    | (refine bltG (by first | omega | (simp only [List.length_map] at *; omega)) ?_; conv => whnf)
    | (refine ndG (by assumption) ?_; conv => whnf)
    | (refine mulG ?_; conv => whnf)
    | (refine And.intro rfl ?_; conv => whnf)
    | (refine dsT (by assumption) ?_; conv => whnf)
    | (refine dsF (by assumption) ?_; conv => whnf)
    | (refine nsT (by assumption) ?_; conv => whnf)
    | (refine nsF (by assumption) ?_; conv => whnf)
    | (refine bsT (by assumption) ?_; conv => whnf)
    | (refine bsF (by assumption) ?_; conv => whnf)
    | (refine dsp ?_ ?_ <;> intro _ <;> conv => whnf)
    | (refine nsp ?_ ?_ <;> intro _ <;> conv => whnf)
    | (refine cnd_true (by assumption) ?_; conv => whnf)
    | (refine cnd_false (by assumption) ?_; conv => whnf)
    | (refine cnd_split ?_ ?_ <;> intro _ <;> conv => whnf)
    | (refine Cd.par tabOk (by kernel_rfl) (by kernel_rfl) ?_; conv => whnf)
    | (refine Fc.use (pa) ?_ ?_; (focus ((repeat' constructor); done)); conv => whnf)
    | (refine CallQ.of (pa) ?_ ?_; (focus ((repeat' constructor); done)); conv => whnf)
    | (refine Fc.use (pb) ?_ ?_; (focus ((repeat' constructor); done)); conv => whnf)
    | (refine CallQ.of (pb) ?_ ?_; (focus ((repeat' constructor); done)); conv => whnf)
    | (refine Fc.use (pc) ?_ ?_; (focus ((repeat' constructor); done)); conv => whnf)
    | (refine CallQ.of (pc) ?_ ?_; (focus ((repeat' constructor); done)); conv => whnf)
    | (refine Fc.use (pd) ?_ ?_; (focus ((repeat' constructor); done)); conv => whnf)
    | (refine CallQ.of (pd) ?_ ?_; (focus ((repeat' constructor); done)); conv => whnf)
    | (refine Cd.unroll tabOk 5 ?_; conv => whnf))
  all_goals first | rfl | (repeat' constructor)
def Fra.iw (f : Fra) : Prop := f.l0 ≤ 9223372036854775807 ∧ f.l1 ≤ 9223372036854775807 ∧ f.l2 ≤ 9223372036854775807 ∧ f.l3 ≤ 9223372036854775807
theorem r_fr_Check1 (f : Fra) (hf : f.bd) (hi : f.iw) (ht : f.typ = 1) : Fc Tryz.prog n_ouroborosref14_Check [f.sv] (sb (decide (fr1 f))) := by
  obtain ⟨hb, hl⟩ := hf
  have n2 : ¬ f.typ = 2 := by omega
  have n3 : ¬ f.typ = 3 := by omega
  have n4 : ¬ f.typ = 4 := by omega
  have n5 : ¬ f.typ = 5 := by omega
  have n6 : ¬ f.typ = 6 := by omega
  have n7 : ¬ f.typ = 7 := by omega
  have hp := r_dig_Put f.l0 f.l1 f.l2 f.l3 hi.1 hi.2.1 hi.2.2.1 hi.2.2.2
  have he := r_entries f.es hl hb
  by_cases hdg : digOk f.l0 f.l1 f.l2 f.l3
  · rw [if_pos hdg, if_pos hdg] at hp
    generalize (⟨#[]⟩ : ByteArray) ++ num4 f.l0 ++ num4 f.l1 ++ num4 f.l2 ++ num4 f.l3 = tx at hp
    refine Fc.of_body tabOk q_ouroborosref14_Check (by kernel_rfl) ((blwL_one (blw_fra 0 f))) (rfl) ?_
    conv => whnf
    repeat' (first
      | (refine agg4 ?_; conv => whnf)
      | (refine bltG (by first | omega | (simp only [List.length_map] at *; omega)) ?_; conv => whnf)
      | (refine ndG (by assumption) ?_; conv => whnf)
      | (refine mulG ?_; conv => whnf)
      | (refine And.intro rfl ?_; conv => whnf)
      | (refine dsT (by assumption) ?_; conv => whnf)
      | (refine dsF (by assumption) ?_; conv => whnf)
      | (refine nsT (by assumption) ?_; conv => whnf)
      | (refine nsF (by assumption) ?_; conv => whnf)
      | (refine bsT (by assumption) ?_; conv => whnf)
      | (refine bsF (by assumption) ?_; conv => whnf)
      | (refine dsp ?_ ?_ <;> intro _ <;> conv => whnf)
      | (refine nsp ?_ ?_ <;> intro _ <;> conv => whnf)
      | (refine cnd_true (by assumption) ?_; conv => whnf)
      | (refine cnd_false (by assumption) ?_; conv => whnf)
      | (refine cnd_split ?_ ?_ <;> intro _ <;> conv => whnf)
      | (refine Cd.par tabOk (by kernel_rfl) (by kernel_rfl) ?_; conv => whnf)
      | (refine Fc.use (hp) ?_ ?_; (focus ((repeat' constructor); done)); conv => whnf)
      | (refine CallQ.of (hp) ?_ ?_; (focus ((repeat' constructor); done)); conv => whnf)
      | (refine Fc.use (he) ?_ ?_; (focus ((repeat' constructor); done)); conv => whnf)
      | (refine CallQ.of (he) ?_ ?_; (focus ((repeat' constructor); done)); conv => whnf))
    all_goals try simp only [List.length_map] at *
    all_goals first
      | (refine sbF (fun h => ?_); simp only [fr1] at h; first | (exfalso; omega) | grind)
      | (refine sbT ?_; simp only [fr1]; grind)
      | (refine sbD ?_; simp only [fr1]; grind)
  · rw [if_neg hdg, if_neg hdg] at hp
    refine Fc.of_body tabOk q_ouroborosref14_Check (by kernel_rfl) ((blwL_one (blw_fra 0 f))) (rfl) ?_
    conv => whnf
    repeat' (first
      | (refine agg4 ?_; conv => whnf)
      | (refine bltG (by first | omega | (simp only [List.length_map] at *; omega)) ?_; conv => whnf)
      | (refine ndG (by assumption) ?_; conv => whnf)
      | (refine mulG ?_; conv => whnf)
      | (refine And.intro rfl ?_; conv => whnf)
      | (refine dsT (by assumption) ?_; conv => whnf)
      | (refine dsF (by assumption) ?_; conv => whnf)
      | (refine nsT (by assumption) ?_; conv => whnf)
      | (refine nsF (by assumption) ?_; conv => whnf)
      | (refine bsT (by assumption) ?_; conv => whnf)
      | (refine bsF (by assumption) ?_; conv => whnf)
      | (refine dsp ?_ ?_ <;> intro _ <;> conv => whnf)
      | (refine nsp ?_ ?_ <;> intro _ <;> conv => whnf)
      | (refine cnd_true (by assumption) ?_; conv => whnf)
      | (refine cnd_false (by assumption) ?_; conv => whnf)
      | (refine cnd_split ?_ ?_ <;> intro _ <;> conv => whnf)
      | (refine Cd.par tabOk (by kernel_rfl) (by kernel_rfl) ?_; conv => whnf)
      | (refine Fc.use (hp) ?_ ?_; (focus ((repeat' constructor); done)); conv => whnf)
      | (refine CallQ.of (hp) ?_ ?_; (focus ((repeat' constructor); done)); conv => whnf)
      | (refine Fc.use (he) ?_ ?_; (focus ((repeat' constructor); done)); conv => whnf)
      | (refine CallQ.of (he) ?_ ?_; (focus ((repeat' constructor); done)); conv => whnf))
    all_goals try simp only [List.length_map] at *
    all_goals (refine sbF (fun h => ?_); simp only [fr1] at h; first | (exfalso; omega) | grind)
theorem r_fr_Check2 (f : Fra) (hf : f.bd) (hi : f.iw) (ht : f.typ = 2) : Fc Tryz.prog n_ouroborosref14_Check [f.sv] (sb (decide (fr2 f))) := by
  obtain ⟨hb, hl⟩ := hf
  have n1 : ¬ f.typ = 1 := by omega
  have n3 : ¬ f.typ = 3 := by omega
  have n4 : ¬ f.typ = 4 := by omega
  have n5 : ¬ f.typ = 5 := by omega
  have n6 : ¬ f.typ = 6 := by omega
  have n7 : ¬ f.typ = 7 := by omega
  have hp := r_dig_Put f.l0 f.l1 f.l2 f.l3 hi.1 hi.2.1 hi.2.2.1 hi.2.2.2
  have he := r_entries f.es hl hb
  by_cases hdg : digOk f.l0 f.l1 f.l2 f.l3
  · rw [if_pos hdg, if_pos hdg] at hp
    generalize (⟨#[]⟩ : ByteArray) ++ num4 f.l0 ++ num4 f.l1 ++ num4 f.l2 ++ num4 f.l3 = tx at hp
    refine Fc.of_body tabOk q_ouroborosref14_Check (by kernel_rfl) ((blwL_one (blw_fra 0 f))) (rfl) ?_
    conv => whnf
    repeat' (first
      | (refine agg4 ?_; conv => whnf)
      | (refine bltG (by first | omega | (simp only [List.length_map] at *; omega)) ?_; conv => whnf)
      | (refine ndG (by assumption) ?_; conv => whnf)
      | (refine mulG ?_; conv => whnf)
      | (refine And.intro rfl ?_; conv => whnf)
      | (refine dsT (by assumption) ?_; conv => whnf)
      | (refine dsF (by assumption) ?_; conv => whnf)
      | (refine nsT (by assumption) ?_; conv => whnf)
      | (refine nsF (by assumption) ?_; conv => whnf)
      | (refine bsT (by assumption) ?_; conv => whnf)
      | (refine bsF (by assumption) ?_; conv => whnf)
      | (refine dsp ?_ ?_ <;> intro _ <;> conv => whnf)
      | (refine nsp ?_ ?_ <;> intro _ <;> conv => whnf)
      | (refine cnd_true (by assumption) ?_; conv => whnf)
      | (refine cnd_false (by assumption) ?_; conv => whnf)
      | (refine cnd_split ?_ ?_ <;> intro _ <;> conv => whnf)
      | (refine Cd.par tabOk (by kernel_rfl) (by kernel_rfl) ?_; conv => whnf)
      | (refine Fc.use (hp) ?_ ?_; (focus ((repeat' constructor); done)); conv => whnf)
      | (refine CallQ.of (hp) ?_ ?_; (focus ((repeat' constructor); done)); conv => whnf)
      | (refine Fc.use (he) ?_ ?_; (focus ((repeat' constructor); done)); conv => whnf)
      | (refine CallQ.of (he) ?_ ?_; (focus ((repeat' constructor); done)); conv => whnf))
    all_goals try simp only [List.length_map] at *
    all_goals first
      | (refine sbF (fun h => ?_); simp only [fr2] at h; first | (exfalso; omega) | grind)
      | (refine sbT ?_; simp only [fr2]; grind)
      | (refine sbD ?_; simp only [fr2]; grind)
  · rw [if_neg hdg, if_neg hdg] at hp
    refine Fc.of_body tabOk q_ouroborosref14_Check (by kernel_rfl) ((blwL_one (blw_fra 0 f))) (rfl) ?_
    conv => whnf
    repeat' (first
      | (refine agg4 ?_; conv => whnf)
      | (refine bltG (by first | omega | (simp only [List.length_map] at *; omega)) ?_; conv => whnf)
      | (refine ndG (by assumption) ?_; conv => whnf)
      | (refine mulG ?_; conv => whnf)
      | (refine And.intro rfl ?_; conv => whnf)
      | (refine dsT (by assumption) ?_; conv => whnf)
      | (refine dsF (by assumption) ?_; conv => whnf)
      | (refine nsT (by assumption) ?_; conv => whnf)
      | (refine nsF (by assumption) ?_; conv => whnf)
      | (refine bsT (by assumption) ?_; conv => whnf)
      | (refine bsF (by assumption) ?_; conv => whnf)
      | (refine dsp ?_ ?_ <;> intro _ <;> conv => whnf)
      | (refine nsp ?_ ?_ <;> intro _ <;> conv => whnf)
      | (refine cnd_true (by assumption) ?_; conv => whnf)
      | (refine cnd_false (by assumption) ?_; conv => whnf)
      | (refine cnd_split ?_ ?_ <;> intro _ <;> conv => whnf)
      | (refine Cd.par tabOk (by kernel_rfl) (by kernel_rfl) ?_; conv => whnf)
      | (refine Fc.use (hp) ?_ ?_; (focus ((repeat' constructor); done)); conv => whnf)
      | (refine CallQ.of (hp) ?_ ?_; (focus ((repeat' constructor); done)); conv => whnf)
      | (refine Fc.use (he) ?_ ?_; (focus ((repeat' constructor); done)); conv => whnf)
      | (refine CallQ.of (he) ?_ ?_; (focus ((repeat' constructor); done)); conv => whnf))
    all_goals try simp only [List.length_map] at *
    all_goals (refine sbF (fun h => ?_); simp only [fr2] at h; first | (exfalso; omega) | grind)
theorem r_fr_Check3 (f : Fra) (hf : f.bd) (hi : f.iw) (ht : f.typ = 3) : Fc Tryz.prog n_ouroborosref14_Check [f.sv] (sb (decide (fr3 f))) := by
  obtain ⟨hb, hl⟩ := hf
  have n1 : ¬ f.typ = 1 := by omega
  have n2 : ¬ f.typ = 2 := by omega
  have n4 : ¬ f.typ = 4 := by omega
  have n5 : ¬ f.typ = 5 := by omega
  have n6 : ¬ f.typ = 6 := by omega
  have n7 : ¬ f.typ = 7 := by omega
  have hp := r_dig_Put f.l0 f.l1 f.l2 f.l3 hi.1 hi.2.1 hi.2.2.1 hi.2.2.2
  have he := r_entries f.es hl hb
  by_cases hdg : digOk f.l0 f.l1 f.l2 f.l3
  · rw [if_pos hdg, if_pos hdg] at hp
    generalize (⟨#[]⟩ : ByteArray) ++ num4 f.l0 ++ num4 f.l1 ++ num4 f.l2 ++ num4 f.l3 = tx at hp
    refine Fc.of_body tabOk q_ouroborosref14_Check (by kernel_rfl) ((blwL_one (blw_fra 0 f))) (rfl) ?_
    conv => whnf
    repeat' (first
      | (refine agg4 ?_; conv => whnf)
      | (refine bltG (by first | omega | (simp only [List.length_map] at *; omega)) ?_; conv => whnf)
      | (refine ndG (by assumption) ?_; conv => whnf)
      | (refine mulG ?_; conv => whnf)
      | (refine And.intro rfl ?_; conv => whnf)
      | (refine dsT (by assumption) ?_; conv => whnf)
      | (refine dsF (by assumption) ?_; conv => whnf)
      | (refine nsT (by assumption) ?_; conv => whnf)
      | (refine nsF (by assumption) ?_; conv => whnf)
      | (refine bsT (by assumption) ?_; conv => whnf)
      | (refine bsF (by assumption) ?_; conv => whnf)
      | (refine dsp ?_ ?_ <;> intro _ <;> conv => whnf)
      | (refine nsp ?_ ?_ <;> intro _ <;> conv => whnf)
      | (refine cnd_true (by assumption) ?_; conv => whnf)
      | (refine cnd_false (by assumption) ?_; conv => whnf)
      | (refine cnd_split ?_ ?_ <;> intro _ <;> conv => whnf)
      | (refine Cd.par tabOk (by kernel_rfl) (by kernel_rfl) ?_; conv => whnf)
      | (refine Fc.use (hp) ?_ ?_; (focus ((repeat' constructor); done)); conv => whnf)
      | (refine CallQ.of (hp) ?_ ?_; (focus ((repeat' constructor); done)); conv => whnf)
      | (refine Fc.use (he) ?_ ?_; (focus ((repeat' constructor); done)); conv => whnf)
      | (refine CallQ.of (he) ?_ ?_; (focus ((repeat' constructor); done)); conv => whnf))
    all_goals try simp only [List.length_map] at *
    all_goals first
      | (refine sbF (fun h => ?_); simp only [fr3] at h; first | (exfalso; omega) | grind)
      | (refine sbT ?_; simp only [fr3]; grind)
      | (refine sbD ?_; simp only [fr3]; grind)
  · rw [if_neg hdg, if_neg hdg] at hp
    refine Fc.of_body tabOk q_ouroborosref14_Check (by kernel_rfl) ((blwL_one (blw_fra 0 f))) (rfl) ?_
    conv => whnf
    repeat' (first
      | (refine agg4 ?_; conv => whnf)
      | (refine bltG (by first | omega | (simp only [List.length_map] at *; omega)) ?_; conv => whnf)
      | (refine ndG (by assumption) ?_; conv => whnf)
      | (refine mulG ?_; conv => whnf)
      | (refine And.intro rfl ?_; conv => whnf)
      | (refine dsT (by assumption) ?_; conv => whnf)
      | (refine dsF (by assumption) ?_; conv => whnf)
      | (refine nsT (by assumption) ?_; conv => whnf)
      | (refine nsF (by assumption) ?_; conv => whnf)
      | (refine bsT (by assumption) ?_; conv => whnf)
      | (refine bsF (by assumption) ?_; conv => whnf)
      | (refine dsp ?_ ?_ <;> intro _ <;> conv => whnf)
      | (refine nsp ?_ ?_ <;> intro _ <;> conv => whnf)
      | (refine cnd_true (by assumption) ?_; conv => whnf)
      | (refine cnd_false (by assumption) ?_; conv => whnf)
      | (refine cnd_split ?_ ?_ <;> intro _ <;> conv => whnf)
      | (refine Cd.par tabOk (by kernel_rfl) (by kernel_rfl) ?_; conv => whnf)
      | (refine Fc.use (hp) ?_ ?_; (focus ((repeat' constructor); done)); conv => whnf)
      | (refine CallQ.of (hp) ?_ ?_; (focus ((repeat' constructor); done)); conv => whnf)
      | (refine Fc.use (he) ?_ ?_; (focus ((repeat' constructor); done)); conv => whnf)
      | (refine CallQ.of (he) ?_ ?_; (focus ((repeat' constructor); done)); conv => whnf))
    all_goals try simp only [List.length_map] at *
    all_goals (refine sbF (fun h => ?_); simp only [fr3] at h; first | (exfalso; omega) | grind)
theorem r_fr_Check4 (f : Fra) (hf : f.bd) (hi : f.iw) (ht : f.typ = 4) : Fc Tryz.prog n_ouroborosref14_Check [f.sv] (sb (decide (fr4 f))) := by
  obtain ⟨hb, hl⟩ := hf
  have n1 : ¬ f.typ = 1 := by omega
  have n2 : ¬ f.typ = 2 := by omega
  have n3 : ¬ f.typ = 3 := by omega
  have n5 : ¬ f.typ = 5 := by omega
  have n6 : ¬ f.typ = 6 := by omega
  have n7 : ¬ f.typ = 7 := by omega
  have hp := r_dig_Put f.l0 f.l1 f.l2 f.l3 hi.1 hi.2.1 hi.2.2.1 hi.2.2.2
  have he := r_entries f.es hl hb
  by_cases hdg : digOk f.l0 f.l1 f.l2 f.l3
  · rw [if_pos hdg, if_pos hdg] at hp
    generalize (⟨#[]⟩ : ByteArray) ++ num4 f.l0 ++ num4 f.l1 ++ num4 f.l2 ++ num4 f.l3 = tx at hp
    refine Fc.of_body tabOk q_ouroborosref14_Check (by kernel_rfl) ((blwL_one (blw_fra 0 f))) (rfl) ?_
    conv => whnf
    repeat' (first
      | (refine agg4 ?_; conv => whnf)
      | (refine bltG (by first | omega | (simp only [List.length_map] at *; omega)) ?_; conv => whnf)
      | (refine ndG (by assumption) ?_; conv => whnf)
      | (refine mulG ?_; conv => whnf)
      | (refine And.intro rfl ?_; conv => whnf)
      | (refine dsT (by assumption) ?_; conv => whnf)
      | (refine dsF (by assumption) ?_; conv => whnf)
      | (refine nsT (by assumption) ?_; conv => whnf)
      | (refine nsF (by assumption) ?_; conv => whnf)
      | (refine bsT (by assumption) ?_; conv => whnf)
      | (refine bsF (by assumption) ?_; conv => whnf)
      | (refine dsp ?_ ?_ <;> intro _ <;> conv => whnf)
      | (refine nsp ?_ ?_ <;> intro _ <;> conv => whnf)
      | (refine cnd_true (by assumption) ?_; conv => whnf)
      | (refine cnd_false (by assumption) ?_; conv => whnf)
      | (refine cnd_split ?_ ?_ <;> intro _ <;> conv => whnf)
      | (refine Cd.par tabOk (by kernel_rfl) (by kernel_rfl) ?_; conv => whnf)
      | (refine Fc.use (hp) ?_ ?_; (focus ((repeat' constructor); done)); conv => whnf)
      | (refine CallQ.of (hp) ?_ ?_; (focus ((repeat' constructor); done)); conv => whnf)
      | (refine Fc.use (he) ?_ ?_; (focus ((repeat' constructor); done)); conv => whnf)
      | (refine CallQ.of (he) ?_ ?_; (focus ((repeat' constructor); done)); conv => whnf))
    all_goals try simp only [List.length_map] at *
    all_goals first
      | (refine sbF (fun h => ?_); simp only [fr4] at h; first | (exfalso; omega) | grind)
      | (refine sbT ?_; simp only [fr4]; grind)
      | (refine sbD ?_; simp only [fr4]; grind)
  · rw [if_neg hdg, if_neg hdg] at hp
    refine Fc.of_body tabOk q_ouroborosref14_Check (by kernel_rfl) ((blwL_one (blw_fra 0 f))) (rfl) ?_
    conv => whnf
    repeat' (first
      | (refine agg4 ?_; conv => whnf)
      | (refine bltG (by first | omega | (simp only [List.length_map] at *; omega)) ?_; conv => whnf)
      | (refine ndG (by assumption) ?_; conv => whnf)
      | (refine mulG ?_; conv => whnf)
      | (refine And.intro rfl ?_; conv => whnf)
      | (refine dsT (by assumption) ?_; conv => whnf)
      | (refine dsF (by assumption) ?_; conv => whnf)
      | (refine nsT (by assumption) ?_; conv => whnf)
      | (refine nsF (by assumption) ?_; conv => whnf)
      | (refine bsT (by assumption) ?_; conv => whnf)
      | (refine bsF (by assumption) ?_; conv => whnf)
      | (refine dsp ?_ ?_ <;> intro _ <;> conv => whnf)
      | (refine nsp ?_ ?_ <;> intro _ <;> conv => whnf)
      | (refine cnd_true (by assumption) ?_; conv => whnf)
      | (refine cnd_false (by assumption) ?_; conv => whnf)
      | (refine cnd_split ?_ ?_ <;> intro _ <;> conv => whnf)
      | (refine Cd.par tabOk (by kernel_rfl) (by kernel_rfl) ?_; conv => whnf)
      | (refine Fc.use (hp) ?_ ?_; (focus ((repeat' constructor); done)); conv => whnf)
      | (refine CallQ.of (hp) ?_ ?_; (focus ((repeat' constructor); done)); conv => whnf)
      | (refine Fc.use (he) ?_ ?_; (focus ((repeat' constructor); done)); conv => whnf)
      | (refine CallQ.of (he) ?_ ?_; (focus ((repeat' constructor); done)); conv => whnf))
    all_goals try simp only [List.length_map] at *
    all_goals (refine sbF (fun h => ?_); simp only [fr4] at h; first | (exfalso; omega) | grind)
theorem r_fr_Check5 (f : Fra) (hf : f.bd) (hi : f.iw) (ht : f.typ = 5) : Fc Tryz.prog n_ouroborosref14_Check [f.sv] (sb (decide (fr5 f))) := by
  obtain ⟨hb, hl⟩ := hf
  have n1 : ¬ f.typ = 1 := by omega
  have n2 : ¬ f.typ = 2 := by omega
  have n3 : ¬ f.typ = 3 := by omega
  have n4 : ¬ f.typ = 4 := by omega
  have n6 : ¬ f.typ = 6 := by omega
  have n7 : ¬ f.typ = 7 := by omega
  have hp := r_dig_Put f.l0 f.l1 f.l2 f.l3 hi.1 hi.2.1 hi.2.2.1 hi.2.2.2
  have he := r_entries f.es hl hb
  by_cases hdg : digOk f.l0 f.l1 f.l2 f.l3
  · rw [if_pos hdg, if_pos hdg] at hp
    generalize (⟨#[]⟩ : ByteArray) ++ num4 f.l0 ++ num4 f.l1 ++ num4 f.l2 ++ num4 f.l3 = tx at hp
    refine Fc.of_body tabOk q_ouroborosref14_Check (by kernel_rfl) ((blwL_one (blw_fra 0 f))) (rfl) ?_
    conv => whnf
    repeat' (first
      | (refine agg4 ?_; conv => whnf)
      | (refine bltG (by first | omega | (simp only [List.length_map] at *; omega)) ?_; conv => whnf)
      | (refine ndG (by assumption) ?_; conv => whnf)
      | (refine mulG ?_; conv => whnf)
      | (refine And.intro rfl ?_; conv => whnf)
      | (refine dsT (by assumption) ?_; conv => whnf)
      | (refine dsF (by assumption) ?_; conv => whnf)
      | (refine nsT (by assumption) ?_; conv => whnf)
      | (refine nsF (by assumption) ?_; conv => whnf)
      | (refine bsT (by assumption) ?_; conv => whnf)
      | (refine bsF (by assumption) ?_; conv => whnf)
      | (refine dsp ?_ ?_ <;> intro _ <;> conv => whnf)
      | (refine nsp ?_ ?_ <;> intro _ <;> conv => whnf)
      | (refine cnd_true (by assumption) ?_; conv => whnf)
      | (refine cnd_false (by assumption) ?_; conv => whnf)
      | (refine cnd_split ?_ ?_ <;> intro _ <;> conv => whnf)
      | (refine Cd.par tabOk (by kernel_rfl) (by kernel_rfl) ?_; conv => whnf)
      | (refine Fc.use (hp) ?_ ?_; (focus ((repeat' constructor); done)); conv => whnf)
      | (refine CallQ.of (hp) ?_ ?_; (focus ((repeat' constructor); done)); conv => whnf)
      | (refine Fc.use (he) ?_ ?_; (focus ((repeat' constructor); done)); conv => whnf)
      | (refine CallQ.of (he) ?_ ?_; (focus ((repeat' constructor); done)); conv => whnf))
    all_goals try simp only [List.length_map] at *
    all_goals first
      | (refine sbF (fun h => ?_); simp only [fr5] at h; first | (exfalso; omega) | grind)
      | (refine sbT ?_; simp only [fr5]; grind)
      | (refine sbD ?_; simp only [fr5]; grind)
  · rw [if_neg hdg, if_neg hdg] at hp
    refine Fc.of_body tabOk q_ouroborosref14_Check (by kernel_rfl) ((blwL_one (blw_fra 0 f))) (rfl) ?_
    conv => whnf
    repeat' (first
      | (refine agg4 ?_; conv => whnf)
      | (refine bltG (by first | omega | (simp only [List.length_map] at *; omega)) ?_; conv => whnf)
      | (refine ndG (by assumption) ?_; conv => whnf)
      | (refine mulG ?_; conv => whnf)
      | (refine And.intro rfl ?_; conv => whnf)
      | (refine dsT (by assumption) ?_; conv => whnf)
      | (refine dsF (by assumption) ?_; conv => whnf)
      | (refine nsT (by assumption) ?_; conv => whnf)
      | (refine nsF (by assumption) ?_; conv => whnf)
      | (refine bsT (by assumption) ?_; conv => whnf)
      | (refine bsF (by assumption) ?_; conv => whnf)
      | (refine dsp ?_ ?_ <;> intro _ <;> conv => whnf)
      | (refine nsp ?_ ?_ <;> intro _ <;> conv => whnf)
      | (refine cnd_true (by assumption) ?_; conv => whnf)
      | (refine cnd_false (by assumption) ?_; conv => whnf)
      | (refine cnd_split ?_ ?_ <;> intro _ <;> conv => whnf)
      | (refine Cd.par tabOk (by kernel_rfl) (by kernel_rfl) ?_; conv => whnf)
      | (refine Fc.use (hp) ?_ ?_; (focus ((repeat' constructor); done)); conv => whnf)
      | (refine CallQ.of (hp) ?_ ?_; (focus ((repeat' constructor); done)); conv => whnf)
      | (refine Fc.use (he) ?_ ?_; (focus ((repeat' constructor); done)); conv => whnf)
      | (refine CallQ.of (he) ?_ ?_; (focus ((repeat' constructor); done)); conv => whnf))
    all_goals try simp only [List.length_map] at *
    all_goals (refine sbF (fun h => ?_); simp only [fr5] at h; first | (exfalso; omega) | grind)
theorem r_fr_Check6 (f : Fra) (hf : f.bd) (hi : f.iw) (ht : f.typ = 6) : Fc Tryz.prog n_ouroborosref14_Check [f.sv] (sb (decide (fr6 f))) := by
  obtain ⟨hb, hl⟩ := hf
  have n1 : ¬ f.typ = 1 := by omega
  have n2 : ¬ f.typ = 2 := by omega
  have n3 : ¬ f.typ = 3 := by omega
  have n4 : ¬ f.typ = 4 := by omega
  have n5 : ¬ f.typ = 5 := by omega
  have n7 : ¬ f.typ = 7 := by omega
  have hp := r_dig_Put f.l0 f.l1 f.l2 f.l3 hi.1 hi.2.1 hi.2.2.1 hi.2.2.2
  have he := r_entries f.es hl hb
  by_cases hdg : digOk f.l0 f.l1 f.l2 f.l3
  · rw [if_pos hdg, if_pos hdg] at hp
    generalize (⟨#[]⟩ : ByteArray) ++ num4 f.l0 ++ num4 f.l1 ++ num4 f.l2 ++ num4 f.l3 = tx at hp
    refine Fc.of_body tabOk q_ouroborosref14_Check (by kernel_rfl) ((blwL_one (blw_fra 0 f))) (rfl) ?_
    conv => whnf
    repeat' (first
      | (refine agg4 ?_; conv => whnf)
      | (refine bltG (by first | omega | (simp only [List.length_map] at *; omega)) ?_; conv => whnf)
      | (refine ndG (by assumption) ?_; conv => whnf)
      | (refine mulG ?_; conv => whnf)
      | (refine And.intro rfl ?_; conv => whnf)
      | (refine dsT (by assumption) ?_; conv => whnf)
      | (refine dsF (by assumption) ?_; conv => whnf)
      | (refine nsT (by assumption) ?_; conv => whnf)
      | (refine nsF (by assumption) ?_; conv => whnf)
      | (refine bsT (by assumption) ?_; conv => whnf)
      | (refine bsF (by assumption) ?_; conv => whnf)
      | (refine dsp ?_ ?_ <;> intro _ <;> conv => whnf)
      | (refine nsp ?_ ?_ <;> intro _ <;> conv => whnf)
      | (refine cnd_true (by assumption) ?_; conv => whnf)
      | (refine cnd_false (by assumption) ?_; conv => whnf)
      | (refine cnd_split ?_ ?_ <;> intro _ <;> conv => whnf)
      | (refine Cd.par tabOk (by kernel_rfl) (by kernel_rfl) ?_; conv => whnf)
      | (refine Fc.use (hp) ?_ ?_; (focus ((repeat' constructor); done)); conv => whnf)
      | (refine CallQ.of (hp) ?_ ?_; (focus ((repeat' constructor); done)); conv => whnf)
      | (refine Fc.use (he) ?_ ?_; (focus ((repeat' constructor); done)); conv => whnf)
      | (refine CallQ.of (he) ?_ ?_; (focus ((repeat' constructor); done)); conv => whnf))
    all_goals try simp only [List.length_map] at *
    all_goals first
      | (refine sbF (fun h => ?_); simp only [fr6] at h; first | (exfalso; omega) | grind)
      | (refine sbT ?_; simp only [fr6]; grind)
      | (refine sbD ?_; simp only [fr6]; grind)
  · rw [if_neg hdg, if_neg hdg] at hp
    refine Fc.of_body tabOk q_ouroborosref14_Check (by kernel_rfl) ((blwL_one (blw_fra 0 f))) (rfl) ?_
    conv => whnf
    repeat' (first
      | (refine agg4 ?_; conv => whnf)
      | (refine bltG (by first | omega | (simp only [List.length_map] at *; omega)) ?_; conv => whnf)
      | (refine ndG (by assumption) ?_; conv => whnf)
      | (refine mulG ?_; conv => whnf)
      | (refine And.intro rfl ?_; conv => whnf)
      | (refine dsT (by assumption) ?_; conv => whnf)
      | (refine dsF (by assumption) ?_; conv => whnf)
      | (refine nsT (by assumption) ?_; conv => whnf)
      | (refine nsF (by assumption) ?_; conv => whnf)
      | (refine bsT (by assumption) ?_; conv => whnf)
      | (refine bsF (by assumption) ?_; conv => whnf)
      | (refine dsp ?_ ?_ <;> intro _ <;> conv => whnf)
      | (refine nsp ?_ ?_ <;> intro _ <;> conv => whnf)
      | (refine cnd_true (by assumption) ?_; conv => whnf)
      | (refine cnd_false (by assumption) ?_; conv => whnf)
      | (refine cnd_split ?_ ?_ <;> intro _ <;> conv => whnf)
      | (refine Cd.par tabOk (by kernel_rfl) (by kernel_rfl) ?_; conv => whnf)
      | (refine Fc.use (hp) ?_ ?_; (focus ((repeat' constructor); done)); conv => whnf)
      | (refine CallQ.of (hp) ?_ ?_; (focus ((repeat' constructor); done)); conv => whnf)
      | (refine Fc.use (he) ?_ ?_; (focus ((repeat' constructor); done)); conv => whnf)
      | (refine CallQ.of (he) ?_ ?_; (focus ((repeat' constructor); done)); conv => whnf))
    all_goals try simp only [List.length_map] at *
    all_goals (refine sbF (fun h => ?_); simp only [fr6] at h; first | (exfalso; omega) | grind)
theorem r_fr_Check7 (f : Fra) (hf : f.bd) (hi : f.iw) (ht : f.typ = 7) : Fc Tryz.prog n_ouroborosref14_Check [f.sv] (sb (decide (fr7 f))) := by
  obtain ⟨hb, hl⟩ := hf
  have n1 : ¬ f.typ = 1 := by omega
  have n2 : ¬ f.typ = 2 := by omega
  have n3 : ¬ f.typ = 3 := by omega
  have n4 : ¬ f.typ = 4 := by omega
  have n5 : ¬ f.typ = 5 := by omega
  have n6 : ¬ f.typ = 6 := by omega
  have hp := r_dig_Put f.l0 f.l1 f.l2 f.l3 hi.1 hi.2.1 hi.2.2.1 hi.2.2.2
  have he := r_entries f.es hl hb
  by_cases hdg : digOk f.l0 f.l1 f.l2 f.l3
  · rw [if_pos hdg, if_pos hdg] at hp
    generalize (⟨#[]⟩ : ByteArray) ++ num4 f.l0 ++ num4 f.l1 ++ num4 f.l2 ++ num4 f.l3 = tx at hp
    refine Fc.of_body tabOk q_ouroborosref14_Check (by kernel_rfl) ((blwL_one (blw_fra 0 f))) (rfl) ?_
    conv => whnf
    repeat' (first
      | (refine agg4 ?_; conv => whnf)
      | (refine bltG (by first | omega | (simp only [List.length_map] at *; omega)) ?_; conv => whnf)
      | (refine ndG (by assumption) ?_; conv => whnf)
      | (refine mulG ?_; conv => whnf)
      | (refine And.intro rfl ?_; conv => whnf)
      | (refine dsT (by assumption) ?_; conv => whnf)
      | (refine dsF (by assumption) ?_; conv => whnf)
      | (refine nsT (by assumption) ?_; conv => whnf)
      | (refine nsF (by assumption) ?_; conv => whnf)
      | (refine bsT (by assumption) ?_; conv => whnf)
      | (refine bsF (by assumption) ?_; conv => whnf)
      | (refine dsp ?_ ?_ <;> intro _ <;> conv => whnf)
      | (refine nsp ?_ ?_ <;> intro _ <;> conv => whnf)
      | (refine cnd_true (by assumption) ?_; conv => whnf)
      | (refine cnd_false (by assumption) ?_; conv => whnf)
      | (refine cnd_split ?_ ?_ <;> intro _ <;> conv => whnf)
      | (refine Cd.par tabOk (by kernel_rfl) (by kernel_rfl) ?_; conv => whnf)
      | (refine Fc.use (hp) ?_ ?_; (focus ((repeat' constructor); done)); conv => whnf)
      | (refine CallQ.of (hp) ?_ ?_; (focus ((repeat' constructor); done)); conv => whnf)
      | (refine Fc.use (he) ?_ ?_; (focus ((repeat' constructor); done)); conv => whnf)
      | (refine CallQ.of (he) ?_ ?_; (focus ((repeat' constructor); done)); conv => whnf))
    all_goals try simp only [List.length_map] at *
    all_goals first
      | (refine sbF (fun h => ?_); simp only [fr7] at h; first | (exfalso; omega) | grind)
      | (refine sbT ?_; simp only [fr7]; grind)
      | (refine sbD ?_; simp only [fr7]; grind)
  · rw [if_neg hdg, if_neg hdg] at hp
    refine Fc.of_body tabOk q_ouroborosref14_Check (by kernel_rfl) ((blwL_one (blw_fra 0 f))) (rfl) ?_
    conv => whnf
    repeat' (first
      | (refine agg4 ?_; conv => whnf)
      | (refine bltG (by first | omega | (simp only [List.length_map] at *; omega)) ?_; conv => whnf)
      | (refine ndG (by assumption) ?_; conv => whnf)
      | (refine mulG ?_; conv => whnf)
      | (refine And.intro rfl ?_; conv => whnf)
      | (refine dsT (by assumption) ?_; conv => whnf)
      | (refine dsF (by assumption) ?_; conv => whnf)
      | (refine nsT (by assumption) ?_; conv => whnf)
      | (refine nsF (by assumption) ?_; conv => whnf)
      | (refine bsT (by assumption) ?_; conv => whnf)
      | (refine bsF (by assumption) ?_; conv => whnf)
      | (refine dsp ?_ ?_ <;> intro _ <;> conv => whnf)
      | (refine nsp ?_ ?_ <;> intro _ <;> conv => whnf)
      | (refine cnd_true (by assumption) ?_; conv => whnf)
      | (refine cnd_false (by assumption) ?_; conv => whnf)
      | (refine cnd_split ?_ ?_ <;> intro _ <;> conv => whnf)
      | (refine Cd.par tabOk (by kernel_rfl) (by kernel_rfl) ?_; conv => whnf)
      | (refine Fc.use (hp) ?_ ?_; (focus ((repeat' constructor); done)); conv => whnf)
      | (refine CallQ.of (hp) ?_ ?_; (focus ((repeat' constructor); done)); conv => whnf)
      | (refine Fc.use (he) ?_ ?_; (focus ((repeat' constructor); done)); conv => whnf)
      | (refine CallQ.of (he) ?_ ?_; (focus ((repeat' constructor); done)); conv => whnf))
    all_goals try simp only [List.length_map] at *
    all_goals (refine sbF (fun h => ?_); simp only [fr7] at h; first | (exfalso; omega) | grind)
theorem r_fr_Check0 (f : Fra) (hf : f.bd) (hi : f.iw) (ht : f.typ < 1 ∨ 7 < f.typ) : Fc Tryz.prog n_ouroborosref14_Check [f.sv] (sb false) := by
  obtain ⟨hb, hl⟩ := hf
  have hp := r_dig_Put f.l0 f.l1 f.l2 f.l3 hi.1 hi.2.1 hi.2.2.1 hi.2.2.2
  have he := r_entries f.es hl hb
  rcases ht with ht | ht
  · refine Fc.of_body tabOk q_ouroborosref14_Check (by kernel_rfl) ((blwL_one (blw_fra 0 f))) (rfl) ?_
    conv => whnf
    repeat' (first
      | (refine agg4 ?_; conv => whnf)
      | (refine bltG (by first | omega | (simp only [List.length_map] at *; omega)) ?_; conv => whnf)
      | (refine ndG (by assumption) ?_; conv => whnf)
      | (refine mulG ?_; conv => whnf)
      | (refine And.intro rfl ?_; conv => whnf)
      | (refine dsT (by assumption) ?_; conv => whnf)
      | (refine dsF (by assumption) ?_; conv => whnf)
      | (refine nsT (by assumption) ?_; conv => whnf)
      | (refine nsF (by assumption) ?_; conv => whnf)
      | (refine bsT (by assumption) ?_; conv => whnf)
      | (refine bsF (by assumption) ?_; conv => whnf)
      | (refine dsp ?_ ?_ <;> intro _ <;> conv => whnf)
      | (refine nsp ?_ ?_ <;> intro _ <;> conv => whnf)
      | (refine cnd_true (by assumption) ?_; conv => whnf)
      | (refine cnd_false (by assumption) ?_; conv => whnf)
      | (refine cnd_split ?_ ?_ <;> intro _ <;> conv => whnf)
      | (refine Cd.par tabOk (by kernel_rfl) (by kernel_rfl) ?_; conv => whnf)
      | (refine Fc.use (hp) ?_ ?_; (focus ((repeat' constructor); done)); conv => whnf)
      | (refine CallQ.of (hp) ?_ ?_; (focus ((repeat' constructor); done)); conv => whnf)
      | (refine Fc.use (he) ?_ ?_; (focus ((repeat' constructor); done)); conv => whnf)
      | (refine CallQ.of (he) ?_ ?_; (focus ((repeat' constructor); done)); conv => whnf))
    all_goals rfl
  · have h1 : ¬ f.typ < 1 := by omega
    refine Fc.of_body tabOk q_ouroborosref14_Check (by kernel_rfl) ((blwL_one (blw_fra 0 f))) (rfl) ?_
    conv => whnf
    repeat' (first
      | (refine agg4 ?_; conv => whnf)
      | (refine bltG (by first | omega | (simp only [List.length_map] at *; omega)) ?_; conv => whnf)
      | (refine ndG (by assumption) ?_; conv => whnf)
      | (refine mulG ?_; conv => whnf)
      | (refine And.intro rfl ?_; conv => whnf)
      | (refine dsT (by assumption) ?_; conv => whnf)
      | (refine dsF (by assumption) ?_; conv => whnf)
      | (refine nsT (by assumption) ?_; conv => whnf)
      | (refine nsF (by assumption) ?_; conv => whnf)
      | (refine bsT (by assumption) ?_; conv => whnf)
      | (refine bsF (by assumption) ?_; conv => whnf)
      | (refine dsp ?_ ?_ <;> intro _ <;> conv => whnf)
      | (refine nsp ?_ ?_ <;> intro _ <;> conv => whnf)
      | (refine cnd_true (by assumption) ?_; conv => whnf)
      | (refine cnd_false (by assumption) ?_; conv => whnf)
      | (refine cnd_split ?_ ?_ <;> intro _ <;> conv => whnf)
      | (refine Cd.par tabOk (by kernel_rfl) (by kernel_rfl) ?_; conv => whnf)
      | (refine Fc.use (hp) ?_ ?_; (focus ((repeat' constructor); done)); conv => whnf)
      | (refine CallQ.of (hp) ?_ ?_; (focus ((repeat' constructor); done)); conv => whnf)
      | (refine Fc.use (he) ?_ ?_; (focus ((repeat' constructor); done)); conv => whnf)
      | (refine CallQ.of (he) ?_ ?_; (focus ((repeat' constructor); done)); conv => whnf))
    all_goals rfl
theorem sb_congr {p q : Prop} [Decidable p] [Decidable q] (h : p ↔ q) : sb (decide p) = sb (decide q) := congrArg sb (decide_eq_decide.2 h)
theorem r_fr_Check (f : Fra) (hf : f.bd) (hi : f.iw) : Fc Tryz.prog n_ouroborosref14_Check [f.sv] (sb (decide (frOk f))) := by
  by_cases h1 : f.typ = 1
  · rw [sb_congr (show frOk f ↔ fr1 f by unfold frOk; constructor <;> intro h <;> grind)]; exact r_fr_Check1 f hf hi h1
  by_cases h2 : f.typ = 2
  · rw [sb_congr (show frOk f ↔ fr2 f by unfold frOk; constructor <;> intro h <;> grind)]; exact r_fr_Check2 f hf hi h2
  by_cases h3 : f.typ = 3
  · rw [sb_congr (show frOk f ↔ fr3 f by unfold frOk; constructor <;> intro h <;> grind)]; exact r_fr_Check3 f hf hi h3
  by_cases h4 : f.typ = 4
  · rw [sb_congr (show frOk f ↔ fr4 f by unfold frOk; constructor <;> intro h <;> grind)]; exact r_fr_Check4 f hf hi h4
  by_cases h5 : f.typ = 5
  · rw [sb_congr (show frOk f ↔ fr5 f by unfold frOk; constructor <;> intro h <;> grind)]; exact r_fr_Check5 f hf hi h5
  by_cases h6 : f.typ = 6
  · rw [sb_congr (show frOk f ↔ fr6 f by unfold frOk; constructor <;> intro h <;> grind)]; exact r_fr_Check6 f hf hi h6
  by_cases h7 : f.typ = 7
  · rw [sb_congr (show frOk f ↔ fr7 f by unfold frOk; constructor <;> intro h <;> grind)]; exact r_fr_Check7 f hf hi h7
  rw [show decide (frOk f) = false from decide_eq_false (by unfold frOk; intro h; grind)]
  exact r_fr_Check0 f hf hi (by omega)
theorem blw_sm (m : Nat) (f : Fra) : blw m f.sv = true := blw_fra m f
theorem r_fr_Same (f g : Fra) (hf : f.bd) : Fc Tryz.prog n_ouroborosref14_Same [f.sv, g.sv] (sb (decide (f = g))) := by
  have he := r_All f.es g.es (by have := hf.2; omega) hf.1
  rw [show decide (f = g) = decide (f.typ = g.typ ∧ f.a = g.a ∧ f.b = g.b ∧ [f.l0, f.l1, f.l2, f.l3] = [g.l0, g.l1, g.l2, g.l3] ∧ f.es = g.es) from decide_eq_decide.2 (by
    cases f; cases g; simp only [Fra.mk.injEq, List.cons.injEq, and_true]; grind)]
  refine Fc.of_body tabOk q_ouroborosref14_Same (by kernel_rfl) ((blwL_cons (blw_fra 0 f) (blwL_one (blw_fra 0 g)))) (rfl) ?_
  conv => whnf
  repeat' (first
    | (refine agg4d ?_; conv => whnf)
    | (refine bltG (by first | omega | (simp only [List.length_map] at *; omega)) ?_; conv => whnf)
    | (refine ndG (by assumption) ?_; conv => whnf)
    | (refine mulG ?_; conv => whnf)
    | (refine And.intro rfl ?_; conv => whnf)
    | (refine dsT (by assumption) ?_; conv => whnf)
    | (refine dsF (by assumption) ?_; conv => whnf)
    | (refine nsT (by assumption) ?_; conv => whnf)
    | (refine nsF (by assumption) ?_; conv => whnf)
    | (refine bsT (by assumption) ?_; conv => whnf)
    | (refine bsF (by assumption) ?_; conv => whnf)
    | (refine dsp ?_ ?_ <;> intro _ <;> conv => whnf)
    | (refine nsp ?_ ?_ <;> intro _ <;> conv => whnf)
    | (refine cnd_true (by assumption) ?_; conv => whnf)
    | (refine cnd_false (by assumption) ?_; conv => whnf)
    | (refine cnd_split ?_ ?_ <;> intro _ <;> conv => whnf)
    | (refine Cd.par tabOk (by kernel_rfl) (by kernel_rfl) ?_; conv => whnf)
    | (refine Fc.use (he) ?_ ?_; (focus ((repeat' constructor); done)); conv => whnf)
    | (refine CallQ.of (he) ?_ ?_; (focus ((repeat' constructor); done)); conv => whnf))
  all_goals first
    | rfl
    | (refine sbT ?_; ((try simp only [List.length_map] at *); first | omega | grind))
    | (refine sbF ?_; ((try simp only [List.length_map] at *); first | omega | grind))
    | (refine sbD ?_; ((try simp only [List.length_map] at *); first | omega | grind))
    | (refine sbB ?_; ((try simp only [List.length_map] at *); first | omega | grind))
    | (refine ivT ?_; ((try simp only [List.length_map] at *); first | omega | grind))
    | (refine ivF ?_; ((try simp only [List.length_map] at *); first | omega | grind))
    | (refine ivD ?_; ((try simp only [List.length_map] at *); first | omega | grind))
theorem r_Of (f : Fra) : Fc Tryz.prog n_ouroboroslaw14_Of [f.sv] f.sv := by
  refine Fc.of_body tabOk q_ouroboroslaw14_Of (by kernel_rfl) ((blwL_one (blw_fra 0 f))) ((blw_fra 0 f)) ?_
  conv => whnf
  repeat' (first
    | (refine bltG (by first | omega | (simp only [List.length_map] at *; omega)) ?_; conv => whnf)
    | (refine ndG (by assumption) ?_; conv => whnf)
    | (refine mulG ?_; conv => whnf)
    | (refine And.intro rfl ?_; conv => whnf)
    | (refine dsT (by assumption) ?_; conv => whnf)
    | (refine dsF (by assumption) ?_; conv => whnf)
    | (refine nsT (by assumption) ?_; conv => whnf)
    | (refine nsF (by assumption) ?_; conv => whnf)
    | (refine bsT (by assumption) ?_; conv => whnf)
    | (refine bsF (by assumption) ?_; conv => whnf)
    | (refine dsp ?_ ?_ <;> intro _ <;> conv => whnf)
    | (refine nsp ?_ ?_ <;> intro _ <;> conv => whnf)
    | (refine cnd_true (by assumption) ?_; conv => whnf)
    | (refine cnd_false (by assumption) ?_; conv => whnf)
    | (refine cnd_split ?_ ?_ <;> intro _ <;> conv => whnf)
    | (refine Cd.par tabOk (by kernel_rfl) (by kernel_rfl) ?_; conv => whnf)
    | rfl
    | exact True.intro
    | (refine And.intro ?_ ?_ <;> conv => whnf))
  all_goals first | rfl | (repeat' constructor)
end Go.Proofs.YtmjpidjdbofdjaaGreat

