import Derived.Test.YtmjpidjdbofdjaaVk
/- Contracts: digest.Put. -/
set_option linter.unusedVariables false
set_option linter.unusedSimpArgs false
set_option maxRecDepth 100000
set_option maxHeartbeats 400000
namespace Go.Proofs.Ytmjpidjdbofdjaa
open Go Go.Sy
def digT (a b c d : Int) : ByteArray := ⟨#[]⟩ ++ octT a ++ octT b ++ octT c ++ octT d
theorem c_digest_Put (a b c d : Int) : Fc Try.prog n_digest_Put [dig a b c d] (.tup [ss (if digOk a b c d then digT a b c d else ⟨#[]⟩), iv (if digOk a b c d then 0 else 1)]) := by
  have e0 : (⟨#[]⟩ : ByteArray).size = 0 := rfl
  by_cases ha : octOk a
  case neg =>
    have h : ¬ digOk a b c d := fun h => ha h.1
    rw [if_neg h, if_neg h]
    refine Fc.of_body tabOk q_digest_Put (by kernel_rfl) (rfl) (rfl) ?_
    conv => whnf
    repeat' (first
      | (refine bltG (by first | omega | (simp only [List.length_map] at *; omega)) ?_; conv => whnf)
      | (refine ndG (by assumption) ?_; conv => whnf)
      | (refine mulG ?_; conv => whnf)
      | (refine And.intro rfl ?_; conv => whnf)
      | (refine dsT (by assumption) ?_; conv => whnf)
      | (refine dsF (by assumption) ?_; conv => whnf)
      | (refine nsT (by assumption) ?_; conv => whnf)
      | (refine nsF (by assumption) ?_; conv => whnf)
      | (refine bsT (by assumption) ?_; conv => whnf)
      | (refine bsF (by assumption) ?_; conv => whnf)
      | (refine dsp ?_ ?_ <;> intro _ <;> conv => whnf)
      | (refine nsp ?_ ?_ <;> intro _ <;> conv => whnf)
      | (refine cnd_true (by assumption) ?_; conv => whnf)
      | (refine cnd_false (by assumption) ?_; conv => whnf)
      | (refine cnd_split ?_ ?_ <;> intro _ <;> conv => whnf)
      | (refine Cd.par tabOk (by kernel_rfl) (by kernel_rfl) ?_; conv => whnf)
      | (refine Fc.use (oP0 ha) ?_ ?_; (focus ((repeat' constructor); done)); conv => whnf)
      | (refine CallQ.of (oP0 ha) ?_ ?_; (focus ((repeat' constructor); done)); conv => whnf)
      | (refine Cd.unroll tabOk 5 ?_; conv => whnf))
  by_cases hb : octOk b
  case neg =>
    have h : ¬ digOk a b c d := fun h => hb h.2.1
    rw [if_neg h, if_neg h]
    refine Fc.of_body tabOk q_digest_Put (by kernel_rfl) (rfl) (rfl) ?_
    conv => whnf
    repeat' (first
      | (refine bltG (by first | omega | (simp only [List.length_map] at *; omega)) ?_; conv => whnf)
      | (refine ndG (by assumption) ?_; conv => whnf)
      | (refine mulG ?_; conv => whnf)
      | (refine And.intro rfl ?_; conv => whnf)
      | (refine dsT (by assumption) ?_; conv => whnf)
      | (refine dsF (by assumption) ?_; conv => whnf)
      | (refine nsT (by assumption) ?_; conv => whnf)
      | (refine nsF (by assumption) ?_; conv => whnf)
      | (refine bsT (by assumption) ?_; conv => whnf)
      | (refine bsF (by assumption) ?_; conv => whnf)
      | (refine dsp ?_ ?_ <;> intro _ <;> conv => whnf)
      | (refine nsp ?_ ?_ <;> intro _ <;> conv => whnf)
      | (refine cnd_true (by assumption) ?_; conv => whnf)
      | (refine cnd_false (by assumption) ?_; conv => whnf)
      | (refine cnd_split ?_ ?_ <;> intro _ <;> conv => whnf)
      | (refine Cd.par tabOk (by kernel_rfl) (by kernel_rfl) ?_; conv => whnf)
      | (refine Fc.use (oP1 ha) ?_ ?_; (focus ((repeat' constructor); done)); conv => whnf)
      | (refine CallQ.of (oP1 ha) ?_ ?_; (focus ((repeat' constructor); done)); conv => whnf)
      | (refine Fc.use (oP0 hb) ?_ ?_; (focus ((repeat' constructor); done)); conv => whnf)
      | (refine CallQ.of (oP0 hb) ?_ ?_; (focus ((repeat' constructor); done)); conv => whnf)
      | (refine Cd.unroll tabOk 5 ?_; conv => whnf))
    refine addSz (by simp only [ByteArray.size_append, octT_size, e0]; omega) ?_
    conv => whnf
    repeat' (first
      | (refine bltG (by first | omega | (simp only [List.length_map] at *; omega)) ?_; conv => whnf)
      | (refine ndG (by assumption) ?_; conv => whnf)
      | (refine mulG ?_; conv => whnf)
      | (refine And.intro rfl ?_; conv => whnf)
      | (refine dsT (by assumption) ?_; conv => whnf)
      | (refine dsF (by assumption) ?_; conv => whnf)
      | (refine nsT (by assumption) ?_; conv => whnf)
      | (refine nsF (by assumption) ?_; conv => whnf)
      | (refine bsT (by assumption) ?_; conv => whnf)
      | (refine bsF (by assumption) ?_; conv => whnf)
      | (refine dsp ?_ ?_ <;> intro _ <;> conv => whnf)
      | (refine nsp ?_ ?_ <;> intro _ <;> conv => whnf)
      | (refine cnd_true (by assumption) ?_; conv => whnf)
      | (refine cnd_false (by assumption) ?_; conv => whnf)
      | (refine cnd_split ?_ ?_ <;> intro _ <;> conv => whnf)
      | (refine Cd.par tabOk (by kernel_rfl) (by kernel_rfl) ?_; conv => whnf)
      | (refine Fc.use (oP0 hb) ?_ ?_; (focus ((repeat' constructor); done)); conv => whnf)
      | (refine CallQ.of (oP0 hb) ?_ ?_; (focus ((repeat' constructor); done)); conv => whnf))
  by_cases hc : octOk c
  case neg =>
    have h : ¬ digOk a b c d := fun h => hc h.2.2.1
    rw [if_neg h, if_neg h]
    refine Fc.of_body tabOk q_digest_Put (by kernel_rfl) (rfl) (rfl) ?_
    conv => whnf
    repeat' (first
      | (refine bltG (by first | omega | (simp only [List.length_map] at *; omega)) ?_; conv => whnf)
      | (refine ndG (by assumption) ?_; conv => whnf)
      | (refine mulG ?_; conv => whnf)
      | (refine And.intro rfl ?_; conv => whnf)
      | (refine dsT (by assumption) ?_; conv => whnf)
      | (refine dsF (by assumption) ?_; conv => whnf)
      | (refine nsT (by assumption) ?_; conv => whnf)
      | (refine nsF (by assumption) ?_; conv => whnf)
      | (refine bsT (by assumption) ?_; conv => whnf)
      | (refine bsF (by assumption) ?_; conv => whnf)
      | (refine dsp ?_ ?_ <;> intro _ <;> conv => whnf)
      | (refine nsp ?_ ?_ <;> intro _ <;> conv => whnf)
      | (refine cnd_true (by assumption) ?_; conv => whnf)
      | (refine cnd_false (by assumption) ?_; conv => whnf)
      | (refine cnd_split ?_ ?_ <;> intro _ <;> conv => whnf)
      | (refine Cd.par tabOk (by kernel_rfl) (by kernel_rfl) ?_; conv => whnf)
      | (refine Fc.use (oP1 ha) ?_ ?_; (focus ((repeat' constructor); done)); conv => whnf)
      | (refine CallQ.of (oP1 ha) ?_ ?_; (focus ((repeat' constructor); done)); conv => whnf)
      | (refine Cd.unroll tabOk 5 ?_; conv => whnf))
    refine addSz (by simp only [ByteArray.size_append, octT_size, e0]; omega) ?_
    conv => whnf
    repeat' (first
      | (refine bltG (by first | omega | (simp only [List.length_map] at *; omega)) ?_; conv => whnf)
      | (refine ndG (by assumption) ?_; conv => whnf)
      | (refine mulG ?_; conv => whnf)
      | (refine And.intro rfl ?_; conv => whnf)
      | (refine dsT (by assumption) ?_; conv => whnf)
      | (refine dsF (by assumption) ?_; conv => whnf)
      | (refine nsT (by assumption) ?_; conv => whnf)
      | (refine nsF (by assumption) ?_; conv => whnf)
      | (refine bsT (by assumption) ?_; conv => whnf)
      | (refine bsF (by assumption) ?_; conv => whnf)
      | (refine dsp ?_ ?_ <;> intro _ <;> conv => whnf)
      | (refine nsp ?_ ?_ <;> intro _ <;> conv => whnf)
      | (refine cnd_true (by assumption) ?_; conv => whnf)
      | (refine cnd_false (by assumption) ?_; conv => whnf)
      | (refine cnd_split ?_ ?_ <;> intro _ <;> conv => whnf)
      | (refine Cd.par tabOk (by kernel_rfl) (by kernel_rfl) ?_; conv => whnf)
      | (refine Fc.use (oP1 hb) ?_ ?_; (focus ((repeat' constructor); done)); conv => whnf)
      | (refine CallQ.of (oP1 hb) ?_ ?_; (focus ((repeat' constructor); done)); conv => whnf))
    refine addSz (by simp only [ByteArray.size_append, octT_size, e0]; omega) ?_
    conv => whnf
    repeat' (first
      | (refine bltG (by first | omega | (simp only [List.length_map] at *; omega)) ?_; conv => whnf)
      | (refine ndG (by assumption) ?_; conv => whnf)
      | (refine mulG ?_; conv => whnf)
      | (refine And.intro rfl ?_; conv => whnf)
      | (refine dsT (by assumption) ?_; conv => whnf)
      | (refine dsF (by assumption) ?_; conv => whnf)
      | (refine nsT (by assumption) ?_; conv => whnf)
      | (refine nsF (by assumption) ?_; conv => whnf)
      | (refine bsT (by assumption) ?_; conv => whnf)
      | (refine bsF (by assumption) ?_; conv => whnf)
      | (refine dsp ?_ ?_ <;> intro _ <;> conv => whnf)
      | (refine nsp ?_ ?_ <;> intro _ <;> conv => whnf)
      | (refine cnd_true (by assumption) ?_; conv => whnf)
      | (refine cnd_false (by assumption) ?_; conv => whnf)
      | (refine cnd_split ?_ ?_ <;> intro _ <;> conv => whnf)
      | (refine Cd.par tabOk (by kernel_rfl) (by kernel_rfl) ?_; conv => whnf)
      | (refine Fc.use (oP0 hc) ?_ ?_; (focus ((repeat' constructor); done)); conv => whnf)
      | (refine CallQ.of (oP0 hc) ?_ ?_; (focus ((repeat' constructor); done)); conv => whnf))
  by_cases hd : octOk d
  case neg =>
    have h : ¬ digOk a b c d := fun h => hd h.2.2.2
    rw [if_neg h, if_neg h]
    refine Fc.of_body tabOk q_digest_Put (by kernel_rfl) (rfl) (rfl) ?_
    conv => whnf
    repeat' (first
      | (refine bltG (by first | omega | (simp only [List.length_map] at *; omega)) ?_; conv => whnf)
      | (refine ndG (by assumption) ?_; conv => whnf)
      | (refine mulG ?_; conv => whnf)
      | (refine And.intro rfl ?_; conv => whnf)
      | (refine dsT (by assumption) ?_; conv => whnf)
      | (refine dsF (by assumption) ?_; conv => whnf)
      | (refine nsT (by assumption) ?_; conv => whnf)
      | (refine nsF (by assumption) ?_; conv => whnf)
      | (refine bsT (by assumption) ?_; conv => whnf)
      | (refine bsF (by assumption) ?_; conv => whnf)
      | (refine dsp ?_ ?_ <;> intro _ <;> conv => whnf)
      | (refine nsp ?_ ?_ <;> intro _ <;> conv => whnf)
      | (refine cnd_true (by assumption) ?_; conv => whnf)
      | (refine cnd_false (by assumption) ?_; conv => whnf)
      | (refine cnd_split ?_ ?_ <;> intro _ <;> conv => whnf)
      | (refine Cd.par tabOk (by kernel_rfl) (by kernel_rfl) ?_; conv => whnf)
      | (refine Fc.use (oP1 ha) ?_ ?_; (focus ((repeat' constructor); done)); conv => whnf)
      | (refine CallQ.of (oP1 ha) ?_ ?_; (focus ((repeat' constructor); done)); conv => whnf)
      | (refine Cd.unroll tabOk 5 ?_; conv => whnf))
    refine addSz (by simp only [ByteArray.size_append, octT_size, e0]; omega) ?_
    conv => whnf
    repeat' (first
      | (refine bltG (by first | omega | (simp only [List.length_map] at *; omega)) ?_; conv => whnf)
      | (refine ndG (by assumption) ?_; conv => whnf)
      | (refine mulG ?_; conv => whnf)
      | (refine And.intro rfl ?_; conv => whnf)
      | (refine dsT (by assumption) ?_; conv => whnf)
      | (refine dsF (by assumption) ?_; conv => whnf)
      | (refine nsT (by assumption) ?_; conv => whnf)
      | (refine nsF (by assumption) ?_; conv => whnf)
      | (refine bsT (by assumption) ?_; conv => whnf)
      | (refine bsF (by assumption) ?_; conv => whnf)
      | (refine dsp ?_ ?_ <;> intro _ <;> conv => whnf)
      | (refine nsp ?_ ?_ <;> intro _ <;> conv => whnf)
      | (refine cnd_true (by assumption) ?_; conv => whnf)
      | (refine cnd_false (by assumption) ?_; conv => whnf)
      | (refine cnd_split ?_ ?_ <;> intro _ <;> conv => whnf)
      | (refine Cd.par tabOk (by kernel_rfl) (by kernel_rfl) ?_; conv => whnf)
      | (refine Fc.use (oP1 hb) ?_ ?_; (focus ((repeat' constructor); done)); conv => whnf)
      | (refine CallQ.of (oP1 hb) ?_ ?_; (focus ((repeat' constructor); done)); conv => whnf))
    refine addSz (by simp only [ByteArray.size_append, octT_size, e0]; omega) ?_
    conv => whnf
    repeat' (first
      | (refine bltG (by first | omega | (simp only [List.length_map] at *; omega)) ?_; conv => whnf)
      | (refine ndG (by assumption) ?_; conv => whnf)
      | (refine mulG ?_; conv => whnf)
      | (refine And.intro rfl ?_; conv => whnf)
      | (refine dsT (by assumption) ?_; conv => whnf)
      | (refine dsF (by assumption) ?_; conv => whnf)
      | (refine nsT (by assumption) ?_; conv => whnf)
      | (refine nsF (by assumption) ?_; conv => whnf)
      | (refine bsT (by assumption) ?_; conv => whnf)
      | (refine bsF (by assumption) ?_; conv => whnf)
      | (refine dsp ?_ ?_ <;> intro _ <;> conv => whnf)
      | (refine nsp ?_ ?_ <;> intro _ <;> conv => whnf)
      | (refine cnd_true (by assumption) ?_; conv => whnf)
      | (refine cnd_false (by assumption) ?_; conv => whnf)
      | (refine cnd_split ?_ ?_ <;> intro _ <;> conv => whnf)
      | (refine Cd.par tabOk (by kernel_rfl) (by kernel_rfl) ?_; conv => whnf)
      | (refine Fc.use (oP1 hc) ?_ ?_; (focus ((repeat' constructor); done)); conv => whnf)
      | (refine CallQ.of (oP1 hc) ?_ ?_; (focus ((repeat' constructor); done)); conv => whnf))
    refine addSz (by simp only [ByteArray.size_append, octT_size, e0]; omega) ?_
    conv => whnf
    repeat' (first
      | (refine bltG (by first | omega | (simp only [List.length_map] at *; omega)) ?_; conv => whnf)
      | (refine ndG (by assumption) ?_; conv => whnf)
      | (refine mulG ?_; conv => whnf)
      | (refine And.intro rfl ?_; conv => whnf)
      | (refine dsT (by assumption) ?_; conv => whnf)
      | (refine dsF (by assumption) ?_; conv => whnf)
      | (refine nsT (by assumption) ?_; conv => whnf)
      | (refine nsF (by assumption) ?_; conv => whnf)
      | (refine bsT (by assumption) ?_; conv => whnf)
      | (refine bsF (by assumption) ?_; conv => whnf)
      | (refine dsp ?_ ?_ <;> intro _ <;> conv => whnf)
      | (refine nsp ?_ ?_ <;> intro _ <;> conv => whnf)
      | (refine cnd_true (by assumption) ?_; conv => whnf)
      | (refine cnd_false (by assumption) ?_; conv => whnf)
      | (refine cnd_split ?_ ?_ <;> intro _ <;> conv => whnf)
      | (refine Cd.par tabOk (by kernel_rfl) (by kernel_rfl) ?_; conv => whnf)
      | (refine Fc.use (oP0 hd) ?_ ?_; (focus ((repeat' constructor); done)); conv => whnf)
      | (refine CallQ.of (oP0 hd) ?_ ?_; (focus ((repeat' constructor); done)); conv => whnf))
  · have h : digOk a b c d := ⟨ha, hb, hc, hd⟩
    rw [if_pos h, if_pos h]
    refine Fc.of_body tabOk q_digest_Put (by kernel_rfl) (rfl) (rfl) ?_
    conv => whnf
    repeat' (first
      | (refine bltG (by first | omega | (simp only [List.length_map] at *; omega)) ?_; conv => whnf)
      | (refine ndG (by assumption) ?_; conv => whnf)
      | (refine mulG ?_; conv => whnf)
      | (refine And.intro rfl ?_; conv => whnf)
      | (refine dsT (by assumption) ?_; conv => whnf)
      | (refine dsF (by assumption) ?_; conv => whnf)
      | (refine nsT (by assumption) ?_; conv => whnf)
      | (refine nsF (by assumption) ?_; conv => whnf)
      | (refine bsT (by assumption) ?_; conv => whnf)
      | (refine bsF (by assumption) ?_; conv => whnf)
      | (refine dsp ?_ ?_ <;> intro _ <;> conv => whnf)
      | (refine nsp ?_ ?_ <;> intro _ <;> conv => whnf)
      | (refine cnd_true (by assumption) ?_; conv => whnf)
      | (refine cnd_false (by assumption) ?_; conv => whnf)
      | (refine cnd_split ?_ ?_ <;> intro _ <;> conv => whnf)
      | (refine Cd.par tabOk (by kernel_rfl) (by kernel_rfl) ?_; conv => whnf)
      | (refine Fc.use (oP1 ha) ?_ ?_; (focus ((repeat' constructor); done)); conv => whnf)
      | (refine CallQ.of (oP1 ha) ?_ ?_; (focus ((repeat' constructor); done)); conv => whnf)
      | (refine Cd.unroll tabOk 5 ?_; conv => whnf))
    refine addSz (by simp only [ByteArray.size_append, octT_size, e0]; omega) ?_
    conv => whnf
    repeat' (first
      | (refine bltG (by first | omega | (simp only [List.length_map] at *; omega)) ?_; conv => whnf)
      | (refine ndG (by assumption) ?_; conv => whnf)
      | (refine mulG ?_; conv => whnf)
      | (refine And.intro rfl ?_; conv => whnf)
      | (refine dsT (by assumption) ?_; conv => whnf)
      | (refine dsF (by assumption) ?_; conv => whnf)
      | (refine nsT (by assumption) ?_; conv => whnf)
      | (refine nsF (by assumption) ?_; conv => whnf)
      | (refine bsT (by assumption) ?_; conv => whnf)
      | (refine bsF (by assumption) ?_; conv => whnf)
      | (refine dsp ?_ ?_ <;> intro _ <;> conv => whnf)
      | (refine nsp ?_ ?_ <;> intro _ <;> conv => whnf)
      | (refine cnd_true (by assumption) ?_; conv => whnf)
      | (refine cnd_false (by assumption) ?_; conv => whnf)
      | (refine cnd_split ?_ ?_ <;> intro _ <;> conv => whnf)
      | (refine Cd.par tabOk (by kernel_rfl) (by kernel_rfl) ?_; conv => whnf)
      | (refine Fc.use (oP1 hb) ?_ ?_; (focus ((repeat' constructor); done)); conv => whnf)
      | (refine CallQ.of (oP1 hb) ?_ ?_; (focus ((repeat' constructor); done)); conv => whnf))
    refine addSz (by simp only [ByteArray.size_append, octT_size, e0]; omega) ?_
    conv => whnf
    repeat' (first
      | (refine bltG (by first | omega | (simp only [List.length_map] at *; omega)) ?_; conv => whnf)
      | (refine ndG (by assumption) ?_; conv => whnf)
      | (refine mulG ?_; conv => whnf)
      | (refine And.intro rfl ?_; conv => whnf)
      | (refine dsT (by assumption) ?_; conv => whnf)
      | (refine dsF (by assumption) ?_; conv => whnf)
      | (refine nsT (by assumption) ?_; conv => whnf)
      | (refine nsF (by assumption) ?_; conv => whnf)
      | (refine bsT (by assumption) ?_; conv => whnf)
      | (refine bsF (by assumption) ?_; conv => whnf)
      | (refine dsp ?_ ?_ <;> intro _ <;> conv => whnf)
      | (refine nsp ?_ ?_ <;> intro _ <;> conv => whnf)
      | (refine cnd_true (by assumption) ?_; conv => whnf)
      | (refine cnd_false (by assumption) ?_; conv => whnf)
      | (refine cnd_split ?_ ?_ <;> intro _ <;> conv => whnf)
      | (refine Cd.par tabOk (by kernel_rfl) (by kernel_rfl) ?_; conv => whnf)
      | (refine Fc.use (oP1 hc) ?_ ?_; (focus ((repeat' constructor); done)); conv => whnf)
      | (refine CallQ.of (oP1 hc) ?_ ?_; (focus ((repeat' constructor); done)); conv => whnf))
    refine addSz (by simp only [ByteArray.size_append, octT_size, e0]; omega) ?_
    conv => whnf
    repeat' (first
      | (refine bltG (by first | omega | (simp only [List.length_map] at *; omega)) ?_; conv => whnf)
      | (refine ndG (by assumption) ?_; conv => whnf)
      | (refine mulG ?_; conv => whnf)
      | (refine And.intro rfl ?_; conv => whnf)
      | (refine dsT (by assumption) ?_; conv => whnf)
      | (refine dsF (by assumption) ?_; conv => whnf)
      | (refine nsT (by assumption) ?_; conv => whnf)
      | (refine nsF (by assumption) ?_; conv => whnf)
      | (refine bsT (by assumption) ?_; conv => whnf)
      | (refine bsF (by assumption) ?_; conv => whnf)
      | (refine dsp ?_ ?_ <;> intro _ <;> conv => whnf)
      | (refine nsp ?_ ?_ <;> intro _ <;> conv => whnf)
      | (refine cnd_true (by assumption) ?_; conv => whnf)
      | (refine cnd_false (by assumption) ?_; conv => whnf)
      | (refine cnd_split ?_ ?_ <;> intro _ <;> conv => whnf)
      | (refine Cd.par tabOk (by kernel_rfl) (by kernel_rfl) ?_; conv => whnf)
      | (refine Fc.use (oP1 hd) ?_ ?_; (focus ((repeat' constructor); done)); conv => whnf)
      | (refine CallQ.of (oP1 hd) ?_ ?_; (focus ((repeat' constructor); done)); conv => whnf))
    refine addSz (by simp only [ByteArray.size_append, octT_size, e0]; omega) ?_
    conv => whnf
    exact ⟨rfl, rfl, by first | trivial | rfl⟩
end Go.Proofs.Ytmjpidjdbofdjaa

