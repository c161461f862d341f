import Derived.Test.YtmjpidjdbofdjaaGreatXn
import Derived.Test.YtmjpidjdbofdjaaGreatWb
/- Contracts: probe.Ask, Want, Give. Contracts: frame.Same. Contracts: arena.Below, Alike. -/
set_option linter.unusedVariables false
set_option linter.unusedSimpArgs false
set_option maxRecDepth 100000
set_option maxHeartbeats 1600000
namespace Go.Proofs.YtmjpidjdbofdjaaGreat
open Go Go.Sy
theorem c_digest_In0 (a : Ar) (ha : a.bd) (hk : ¬ arOk a) (mask most : Int) : Fc Tryz.prog n_digest_In [a.sv, iv mask, iv most] (ents []) := by
  have hck := c_arena_Chunk_no a ha hk
  refine Fc.of_body tabOk q_digest_In (by kernel_rfl) ((blwL_cons (blw_ar 0 a) (blwL_cons rfl (blwL_one rfl)))) ((blw_ents 0 _)) ?_
  conv => whnf
  repeat' (first
    | (refine bltG (by first | omega | (simp only [List.length_map] at *; omega)) ?_; conv => whnf)
    | (refine ndG (by assumption) ?_; conv => whnf)
    | (refine mulG ?_; conv => whnf)
    | (refine And.intro rfl ?_; conv => whnf)
    | (refine dsT (by assumption) ?_; conv => whnf)
    | (refine dsF (by assumption) ?_; conv => whnf)
    | (refine nsT (by assumption) ?_; conv => whnf)
    | (refine nsF (by assumption) ?_; conv => whnf)
    | (refine bsT (by assumption) ?_; conv => whnf)
    | (refine bsF (by assumption) ?_; conv => whnf)
    | (refine dsp ?_ ?_ <;> intro _ <;> conv => whnf)
    | (refine nsp ?_ ?_ <;> intro _ <;> conv => whnf)
    | (refine cnd_true (by assumption) ?_; conv => whnf)
    | (refine cnd_false (by assumption) ?_; conv => whnf)
    | (refine cnd_split ?_ ?_ <;> intro _ <;> conv => whnf)
    | (refine Cd.par tabOk (by kernel_rfl) (by kernel_rfl) ?_; conv => whnf)
    | (refine Tr.of_body tabOk q_digest_slots (by kernel_rfl) ?_; conv => whnf))
  refine Cd.rangeFunc [(3, .loc 0 0), (4, .loc 1 0), (5, .loc 2 0), (7, .loc 3 0), (8, .loc 4 0)] (by repeat' constructor) ?_
  conv => whnf
  refine And.intro ⟨_, q_digest_slots_1, by kernel_rfl⟩ ?_
  refine Tr.of_body tabOk q_digest_slots_1 (by kernel_rfl) ?_
  conv => whnf
  repeat' (first
    | (refine bltG (by first | omega | (simp only [List.length_map] at *; omega)) ?_; conv => whnf)
    | (refine ndG (by assumption) ?_; conv => whnf)
    | (refine mulG ?_; conv => whnf)
    | (refine And.intro rfl ?_; conv => whnf)
    | (refine dsT (by assumption) ?_; conv => whnf)
    | (refine dsF (by assumption) ?_; conv => whnf)
    | (refine nsT (by assumption) ?_; conv => whnf)
    | (refine nsF (by assumption) ?_; conv => whnf)
    | (refine bsT (by assumption) ?_; conv => whnf)
    | (refine bsF (by assumption) ?_; conv => whnf)
    | (refine dsp ?_ ?_ <;> intro _ <;> conv => whnf)
    | (refine nsp ?_ ?_ <;> intro _ <;> conv => whnf)
    | (refine cnd_true (by assumption) ?_; conv => whnf)
    | (refine cnd_false (by assumption) ?_; conv => whnf)
    | (refine cnd_split ?_ ?_ <;> intro _ <;> conv => whnf)
    | (refine Cd.par tabOk (by kernel_rfl) (by kernel_rfl) ?_; conv => whnf)
    | (refine Fc.use (hck) ?_ ?_; (focus ((repeat' constructor); done)); conv => whnf)
    | (refine CallQ.of (hck) ?_ ?_; (focus ((repeat' constructor); done)); conv => whnf)
    | (refine Cd.unroll tabOk 1 ?_; conv => whnf))
  all_goals repeat' constructor
def inF (a : Ar) (mask most : Int) : List Ent := inS (slotsOf a) mask most
theorem c_In (a : Ar) (ha : a.bd) (mask most : Int) : Fc Tryz.prog n_digest_In [a.sv, iv mask, iv most] (ents (inF a mask most)) := by
  unfold inF slotsOf
  by_cases hk : arOk a
  · simp only [if_pos hk]; exact c_digest_In1 a ha hk mask most
  · simp only [if_neg hk]; exact c_digest_In0 a ha hk mask most
theorem c_probe_in (a : Ar) (ha : a.bd) (mask most : Int) : Fc Tryz.prog n_probe_in [a.sv, iv mask, iv most] (ents (inF a mask most)) := by
  have h := c_In a ha mask most
  refine Fc.of_body tabOk q_probe_in (by kernel_rfl) ((blwL_cons (blw_ar 0 a) (blwL_cons rfl (blwL_one rfl)))) ((blw_ents 0 _)) ?_
  conv => whnf
  repeat' (first
    | (refine bltG (by first | omega | (simp only [List.length_map] at *; omega)) ?_; conv => whnf)
    | (refine ndG (by assumption) ?_; conv => whnf)
    | (refine mulG ?_; conv => whnf)
    | (refine And.intro rfl ?_; conv => whnf)
    | (refine dsT (by assumption) ?_; conv => whnf)
    | (refine dsF (by assumption) ?_; conv => whnf)
    | (refine nsT (by assumption) ?_; conv => whnf)
    | (refine nsF (by assumption) ?_; conv => whnf)
    | (refine bsT (by assumption) ?_; conv => whnf)
    | (refine bsF (by assumption) ?_; conv => whnf)
    | (refine dsp ?_ ?_ <;> intro _ <;> conv => whnf)
    | (refine nsp ?_ ?_ <;> intro _ <;> conv => whnf)
    | (refine cnd_true (by assumption) ?_; conv => whnf)
    | (refine cnd_false (by assumption) ?_; conv => whnf)
    | (refine cnd_split ?_ ?_ <;> intro _ <;> conv => whnf)
    | (refine Cd.par tabOk (by kernel_rfl) (by kernel_rfl) ?_; conv => whnf)
    | (refine Fc.use (h) ?_ ?_; (focus ((repeat' constructor); done)); conv => whnf)
    | (refine CallQ.of (h) ?_ ?_; (focus ((repeat' constructor); done)); conv => whnf))
  rw [Nat.sub_zero, List.drop_zero, List.take_length]
def askF (a : Ar) : Fra := ⟨3, 0, 0, smF a 0, smF a 1, smF a 2, smF a 3, []⟩
theorem c_probe_Ask (a : Ar) (ha : a.bd) : Fc Tryz.prog n_probe_Ask [a.sv] (askF a).sv := by
  have h := c_Sums a ha
  refine Fc.of_body tabOk q_probe_Ask (by kernel_rfl) ((blwL_one (blw_ar 0 a))) ((blw_fra 0 _)) ?_
  conv => whnf
  repeat' (first
    | (refine bltG (by first | omega | (simp only [List.length_map] at *; omega)) ?_; conv => whnf)
    | (refine ndG (by assumption) ?_; conv => whnf)
    | (refine mulG ?_; conv => whnf)
    | (refine And.intro rfl ?_; conv => whnf)
    | (refine dsT (by assumption) ?_; conv => whnf)
    | (refine dsF (by assumption) ?_; conv => whnf)
    | (refine nsT (by assumption) ?_; conv => whnf)
    | (refine nsF (by assumption) ?_; conv => whnf)
    | (refine bsT (by assumption) ?_; conv => whnf)
    | (refine bsF (by assumption) ?_; conv => whnf)
    | (refine dsp ?_ ?_ <;> intro _ <;> conv => whnf)
    | (refine nsp ?_ ?_ <;> intro _ <;> conv => whnf)
    | (refine cnd_true (by assumption) ?_; conv => whnf)
    | (refine cnd_false (by assumption) ?_; conv => whnf)
    | (refine cnd_split ?_ ?_ <;> intro _ <;> conv => whnf)
    | (refine Cd.par tabOk (by kernel_rfl) (by kernel_rfl) ?_; conv => whnf)
    | (refine Fc.use (h) ?_ ?_; (focus ((repeat' constructor); done)); conv => whnf)
    | (refine CallQ.of (h) ?_ ?_; (focus ((repeat' constructor); done)); conv => whnf))
  all_goals repeat' constructor
def FZ : Fra := ⟨0, 0, 0, 0, 0, 0, 0, []⟩
def mskF (a : Ar) (f : Fra) : Int := dif (smF a 0) (smF a 1) (smF a 2) (smF a 3) f.l0 f.l1 f.l2 f.l3
def toldB (f : Fra) (k chunk : Int) : Prop := frOk f ∧ f.typ = k ∧ 1 ≤ chunk ∧ chunk ≤ 8
instance (f : Fra) (k chunk : Int) : Decidable (toldB f k chunk) := by unfold toldB; infer_instance
def wantB (a : Ar) (f : Fra) (chunk : Int) : Prop := toldB f 3 chunk ∧ mskF a f ≠ 0
instance (a : Ar) (f : Fra) (chunk : Int) : Decidable (wantB a f chunk) := by unfold wantB; infer_instance
def wantF (a : Ar) (f : Fra) (chunk : Int) : Fra := if wantB a f chunk then ⟨4, mskF a f, 0, 0, 0, 0, 0, inF a (mskF a f) chunk⟩ else FZ
def giveB (a : Ar) (f : Fra) (chunk : Int) : Prop := toldB f 4 chunk ∧ inF a f.a chunk ≠ []
instance (a : Ar) (f : Fra) (chunk : Int) : Decidable (giveB a f chunk) := by unfold giveB; infer_instance
def giveF (a : Ar) (f : Fra) (chunk : Int) : Fra := if giveB a f chunk then ⟨5, 0, 0, 0, 0, 0, 0, inF a f.a chunk⟩ else FZ
theorem blw_tf (f : Fra) (b : Bool) : blw 0 (.tup [f.sv, sb b]) = true := by
  rw [blw]; exact blwL_cons (blw_fra 0 f) (blwL_one rfl)
theorem told_no {f : Fra} {k chunk : Int} (hf : f.bd) (h : ¬ toldB f k chunk) : (Fc Tryz.prog n_frame_Check [f.sv] (iv 2)) ∨ ((Fc Tryz.prog n_frame_Check [f.sv] (iv 0)) ∧ (¬ f.typ = k ∨ (f.typ = k ∧ (chunk < 1 ∨ (¬ chunk < 1 ∧ 8 < chunk))))) := by
  have hc := c_frame_Check f hf
  unfold en at hc
  by_cases h0 : frOk f
  · rw [if_pos h0] at hc
    refine .inr ⟨hc, ?_⟩
    by_cases h1 : f.typ = k
    · refine .inr ⟨h1, ?_⟩
      by_cases h2 : chunk < 1
      · exact .inl h2
      · refine .inr ⟨h2, ?_⟩
        by_cases h3 : 8 < chunk
        · exact h3
        · exact absurd ⟨h0, h1, by omega, by omega⟩ h
    · exact .inl h1
  · rw [if_neg h0] at hc
    exact .inl hc
theorem c_Want_no (a : Ar) (ha : a.bd) (f : Fra) (hf : f.bd) (chunk : Int) (h : ¬ toldB f 3 chunk) : Fc Tryz.prog n_probe_Want [a.sv, f.sv, iv chunk] (.tup [FZ.sv, sb false]) := by
  rcases told_no hf h with hc | ⟨hc, h1 | ⟨h1, h2 | ⟨h2, h3⟩⟩⟩
  all_goals
    refine Fc.of_body tabOk q_probe_Want (by kernel_rfl) ((blwL_cons (blw_ar 0 a) (blwL_cons (blw_fra 0 f) (blwL_one rfl)))) ((blw_tf _ _)) ?_
    conv => whnf
    repeat' (first
      | (refine bltG (by first | omega | (simp only [List.length_map] at *; omega)) ?_; conv => whnf)
      | (refine ndG (by assumption) ?_; conv => whnf)
      | (refine mulG ?_; conv => whnf)
      | (refine And.intro rfl ?_; conv => whnf)
      | (refine dsT (by assumption) ?_; conv => whnf)
      | (refine dsF (by assumption) ?_; conv => whnf)
      | (refine nsT (by assumption) ?_; conv => whnf)
      | (refine nsF (by assumption) ?_; conv => whnf)
      | (refine bsT (by assumption) ?_; conv => whnf)
      | (refine bsF (by assumption) ?_; conv => whnf)
      | (refine dsp ?_ ?_ <;> intro _ <;> conv => whnf)
      | (refine nsp ?_ ?_ <;> intro _ <;> conv => whnf)
      | (refine cnd_true (by assumption) ?_; conv => whnf)
      | (refine cnd_false (by assumption) ?_; conv => whnf)
      | (refine cnd_split ?_ ?_ <;> intro _ <;> conv => whnf)
      | (refine Cd.par tabOk (by kernel_rfl) (by kernel_rfl) ?_; conv => whnf)
      | (refine Fc.use (hc) ?_ ?_; (focus ((repeat' constructor); done)); conv => whnf)
      | (refine CallQ.of (hc) ?_ ?_; (focus ((repeat' constructor); done)); conv => whnf)
      | (refine Tr.of_body tabOk q_probe_told_frame_Frame (by kernel_rfl) ?_; conv => whnf))
    all_goals repeat' constructor
theorem c_Give_no (a : Ar) (ha : a.bd) (f : Fra) (hf : f.bd) (chunk : Int) (h : ¬ toldB f 4 chunk) : Fc Tryz.prog n_probe_Give [a.sv, f.sv, iv chunk] (.tup [FZ.sv, sb false]) := by
  rcases told_no hf h with hc | ⟨hc, h1 | ⟨h1, h2 | ⟨h2, h3⟩⟩⟩
  all_goals
    refine Fc.of_body tabOk q_probe_Give (by kernel_rfl) ((blwL_cons (blw_ar 0 a) (blwL_cons (blw_fra 0 f) (blwL_one rfl)))) ((blw_tf _ _)) ?_
    conv => whnf
    repeat' (first
      | (refine bltG (by first | omega | (simp only [List.length_map] at *; omega)) ?_; conv => whnf)
      | (refine ndG (by assumption) ?_; conv => whnf)
      | (refine mulG ?_; conv => whnf)
      | (refine And.intro rfl ?_; conv => whnf)
      | (refine dsT (by assumption) ?_; conv => whnf)
      | (refine dsF (by assumption) ?_; conv => whnf)
      | (refine nsT (by assumption) ?_; conv => whnf)
      | (refine nsF (by assumption) ?_; conv => whnf)
      | (refine bsT (by assumption) ?_; conv => whnf)
      | (refine bsF (by assumption) ?_; conv => whnf)
      | (refine dsp ?_ ?_ <;> intro _ <;> conv => whnf)
      | (refine nsp ?_ ?_ <;> intro _ <;> conv => whnf)
      | (refine cnd_true (by assumption) ?_; conv => whnf)
      | (refine cnd_false (by assumption) ?_; conv => whnf)
      | (refine cnd_split ?_ ?_ <;> intro _ <;> conv => whnf)
      | (refine Cd.par tabOk (by kernel_rfl) (by kernel_rfl) ?_; conv => whnf)
      | (refine Fc.use (hc) ?_ ?_; (focus ((repeat' constructor); done)); conv => whnf)
      | (refine CallQ.of (hc) ?_ ?_; (focus ((repeat' constructor); done)); conv => whnf)
      | (refine Tr.of_body tabOk q_probe_told_frame_Frame (by kernel_rfl) ?_; conv => whnf))
    all_goals repeat' constructor
theorem c_Want (a : Ar) (ha : a.bd) (f : Fra) (hf : f.bd) (chunk : Int) : Fc Tryz.prog n_probe_Want [a.sv, f.sv, iv chunk] (.tup [(wantF a f chunk).sv, sb (decide (wantB a f chunk))]) := by
  by_cases ht : toldB f 3 chunk
  · have hs := c_Sums a ha
    have hd := c_digest_Differ (smF a 0) (smF a 1) (smF a 2) (smF a 3) f.l0 f.l1 f.l2 f.l3
    have hi := c_probe_in a ha (mskF a f) chunk
    rw [show dif (smF a 0) (smF a 1) (smF a 2) (smF a 3) f.l0 f.l1 f.l2 f.l3 = mskF a f from rfl] at hd
    have hc := c_frame_Check f hf
    unfold en at hc
    rw [if_pos ht.1] at hc
    obtain ⟨h0, h1, h2, h3⟩ := ht
    have h2' : ¬ chunk < 1 := by omega
    have h3' : ¬ 8 < chunk := by omega
    by_cases hm : mskF a f = 0
    · rw [show wantF a f chunk = FZ from if_neg (fun h => h.2 hm), show decide (wantB a f chunk) = false from decide_eq_false (fun h => h.2 hm)]
      generalize mskF a f = msk at *
      refine Fc.of_body tabOk q_probe_Want (by kernel_rfl) ((blwL_cons (blw_ar 0 a) (blwL_cons (blw_fra 0 f) (blwL_one rfl)))) ((blw_tf _ _)) ?_
      conv => whnf
      repeat' (first
        | (refine bltG (by first | omega | (simp only [List.length_map] at *; omega)) ?_; conv => whnf)
        | (refine ndG (by assumption) ?_; conv => whnf)
        | (refine mulG ?_; conv => whnf)
        | (refine And.intro rfl ?_; conv => whnf)
        | (refine dsT (by assumption) ?_; conv => whnf)
        | (refine dsF (by assumption) ?_; conv => whnf)
        | (refine nsT (by assumption) ?_; conv => whnf)
        | (refine nsF (by assumption) ?_; conv => whnf)
        | (refine bsT (by assumption) ?_; conv => whnf)
        | (refine bsF (by assumption) ?_; conv => whnf)
        | (refine dsp ?_ ?_ <;> intro _ <;> conv => whnf)
        | (refine nsp ?_ ?_ <;> intro _ <;> conv => whnf)
        | (refine cnd_true (by assumption) ?_; conv => whnf)
        | (refine cnd_false (by assumption) ?_; conv => whnf)
        | (refine cnd_split ?_ ?_ <;> intro _ <;> conv => whnf)
        | (refine Cd.par tabOk (by kernel_rfl) (by kernel_rfl) ?_; conv => whnf)
        | (refine Fc.use (hc) ?_ ?_; (focus ((repeat' constructor); done)); conv => whnf)
        | (refine CallQ.of (hc) ?_ ?_; (focus ((repeat' constructor); done)); conv => whnf)
        | (refine Tr.of_body tabOk q_probe_told_frame_Frame (by kernel_rfl) ?_; conv => whnf)
        | (refine Tr.of_body tabOk q_probe_Want_1 (by kernel_rfl) ?_; conv => whnf)
        | (refine Fc.use (hs) ?_ ?_; (focus ((repeat' constructor); done)); conv => whnf)
        | (refine CallQ.of (hs) ?_ ?_; (focus ((repeat' constructor); done)); conv => whnf)
        | (refine Fc.use (hd) ?_ ?_; (focus ((repeat' constructor); done)); conv => whnf)
        | (refine CallQ.of (hd) ?_ ?_; (focus ((repeat' constructor); done)); conv => whnf))
      all_goals repeat' constructor
    · have hw : wantB a f chunk := ⟨⟨h0, h1, h2, h3⟩, hm⟩
      rw [show wantF a f chunk = ⟨4, mskF a f, 0, 0, 0, 0, 0, inF a (mskF a f) chunk⟩ from if_pos hw, show decide (wantB a f chunk) = true from decide_eq_true hw]
      clear hw
      generalize inF a (mskF a f) chunk = l at *
      generalize mskF a f = msk at *
      refine Fc.of_body tabOk q_probe_Want (by kernel_rfl) ((blwL_cons (blw_ar 0 a) (blwL_cons (blw_fra 0 f) (blwL_one rfl)))) ((blw_tf _ _)) ?_
      conv => whnf
      repeat' (first
        | (refine bltG (by first | omega | (simp only [List.length_map] at *; omega)) ?_; conv => whnf)
        | (refine ndG (by assumption) ?_; conv => whnf)
        | (refine mulG ?_; conv => whnf)
        | (refine And.intro rfl ?_; conv => whnf)
        | (refine dsT (by assumption) ?_; conv => whnf)
        | (refine dsF (by assumption) ?_; conv => whnf)
        | (refine nsT (by assumption) ?_; conv => whnf)
        | (refine nsF (by assumption) ?_; conv => whnf)
        | (refine bsT (by assumption) ?_; conv => whnf)
        | (refine bsF (by assumption) ?_; conv => whnf)
        | (refine dsp ?_ ?_ <;> intro _ <;> conv => whnf)
        | (refine nsp ?_ ?_ <;> intro _ <;> conv => whnf)
        | (refine cnd_true (by assumption) ?_; conv => whnf)
        | (refine cnd_false (by assumption) ?_; conv => whnf)
        | (refine cnd_split ?_ ?_ <;> intro _ <;> conv => whnf)
        | (refine Cd.par tabOk (by kernel_rfl) (by kernel_rfl) ?_; conv => whnf)
        | (refine Fc.use (hc) ?_ ?_; (focus ((repeat' constructor); done)); conv => whnf)
        | (refine CallQ.of (hc) ?_ ?_; (focus ((repeat' constructor); done)); conv => whnf)
        | (refine Tr.of_body tabOk q_probe_told_frame_Frame (by kernel_rfl) ?_; conv => whnf)
        | (refine Tr.of_body tabOk q_probe_Want_1 (by kernel_rfl) ?_; conv => whnf)
        | (refine Fc.use (hs) ?_ ?_; (focus ((repeat' constructor); done)); conv => whnf)
        | (refine CallQ.of (hs) ?_ ?_; (focus ((repeat' constructor); done)); conv => whnf)
        | (refine Fc.use (hd) ?_ ?_; (focus ((repeat' constructor); done)); conv => whnf)
        | (refine CallQ.of (hd) ?_ ?_; (focus ((repeat' constructor); done)); conv => whnf)
        | (refine Fc.use (hi) ?_ ?_; (focus ((repeat' constructor); done)); conv => whnf)
        | (refine CallQ.of (hi) ?_ ?_; (focus ((repeat' constructor); done)); conv => whnf))
      all_goals repeat' constructor
  · rw [show wantF a f chunk = FZ from if_neg (fun h => ht h.1), show decide (wantB a f chunk) = false from decide_eq_false (fun h => ht h.1)]
    exact c_Want_no a ha f hf chunk ht
theorem c_Give (a : Ar) (ha : a.bd) (f : Fra) (hf : f.bd) (chunk : Int) : Fc Tryz.prog n_probe_Give [a.sv, f.sv, iv chunk] (.tup [(giveF a f chunk).sv, sb (decide (giveB a f chunk))]) := by
  by_cases ht : toldB f 4 chunk
  · have hi := c_probe_in a ha f.a chunk
    have hc := c_frame_Check f hf
    unfold en at hc
    rw [if_pos ht.1] at hc
    obtain ⟨h0, h1, h2, h3⟩ := ht
    have h2' : ¬ chunk < 1 := by omega
    have h3' : ¬ 8 < chunk := by omega
    by_cases hm : inF a f.a chunk = []
    · rw [show giveF a f chunk = FZ from if_neg (fun h => h.2 hm), show decide (giveB a f chunk) = false from decide_eq_false (fun h => h.2 hm)]
      rw [hm] at hi
      refine Fc.of_body tabOk q_probe_Give (by kernel_rfl) ((blwL_cons (blw_ar 0 a) (blwL_cons (blw_fra 0 f) (blwL_one rfl)))) ((blw_tf _ _)) ?_
      conv => whnf
      repeat' (first
        | (refine bltG (by first | omega | (simp only [List.length_map] at *; omega)) ?_; conv => whnf)
        | (refine ndG (by assumption) ?_; conv => whnf)
        | (refine mulG ?_; conv => whnf)
        | (refine And.intro rfl ?_; conv => whnf)
        | (refine dsT (by assumption) ?_; conv => whnf)
        | (refine dsF (by assumption) ?_; conv => whnf)
        | (refine nsT (by assumption) ?_; conv => whnf)
        | (refine nsF (by assumption) ?_; conv => whnf)
        | (refine bsT (by assumption) ?_; conv => whnf)
        | (refine bsF (by assumption) ?_; conv => whnf)
        | (refine dsp ?_ ?_ <;> intro _ <;> conv => whnf)
        | (refine nsp ?_ ?_ <;> intro _ <;> conv => whnf)
        | (refine cnd_true (by assumption) ?_; conv => whnf)
        | (refine cnd_false (by assumption) ?_; conv => whnf)
        | (refine cnd_split ?_ ?_ <;> intro _ <;> conv => whnf)
        | (refine Cd.par tabOk (by kernel_rfl) (by kernel_rfl) ?_; conv => whnf)
        | (refine Fc.use (hc) ?_ ?_; (focus ((repeat' constructor); done)); conv => whnf)
        | (refine CallQ.of (hc) ?_ ?_; (focus ((repeat' constructor); done)); conv => whnf)
        | (refine Tr.of_body tabOk q_probe_told_frame_Frame (by kernel_rfl) ?_; conv => whnf)
        | (refine Tr.of_body tabOk q_probe_Give_1 (by kernel_rfl) ?_; conv => whnf)
        | (refine Fc.use (hi) ?_ ?_; (focus ((repeat' constructor); done)); conv => whnf)
        | (refine CallQ.of (hi) ?_ ?_; (focus ((repeat' constructor); done)); conv => whnf))
      all_goals repeat' constructor
    · have hw : giveB a f chunk := ⟨⟨h0, h1, h2, h3⟩, hm⟩
      rw [show giveF a f chunk = ⟨5, 0, 0, 0, 0, 0, 0, inF a f.a chunk⟩ from if_pos hw, show decide (giveB a f chunk) = true from decide_eq_true hw]
      clear hw
      generalize inF a f.a chunk = l at *
      have hl : ¬ ((l.map Ent.sv).length : Int) = 0 := by cases l with | nil => exact absurd rfl hm | cons x r => (simp; omega)
      refine Fc.of_body tabOk q_probe_Give (by kernel_rfl) ((blwL_cons (blw_ar 0 a) (blwL_cons (blw_fra 0 f) (blwL_one rfl)))) ((blw_tf _ _)) ?_
      conv => whnf
      repeat' (first
        | (refine bltG (by first | omega | (simp only [List.length_map] at *; omega)) ?_; conv => whnf)
        | (refine ndG (by assumption) ?_; conv => whnf)
        | (refine mulG ?_; conv => whnf)
        | (refine And.intro rfl ?_; conv => whnf)
        | (refine dsT (by assumption) ?_; conv => whnf)
        | (refine dsF (by assumption) ?_; conv => whnf)
        | (refine nsT (by assumption) ?_; conv => whnf)
        | (refine nsF (by assumption) ?_; conv => whnf)
        | (refine bsT (by assumption) ?_; conv => whnf)
        | (refine bsF (by assumption) ?_; conv => whnf)
        | (refine dsp ?_ ?_ <;> intro _ <;> conv => whnf)
        | (refine nsp ?_ ?_ <;> intro _ <;> conv => whnf)
        | (refine cnd_true (by assumption) ?_; conv => whnf)
        | (refine cnd_false (by assumption) ?_; conv => whnf)
        | (refine cnd_split ?_ ?_ <;> intro _ <;> conv => whnf)
        | (refine Cd.par tabOk (by kernel_rfl) (by kernel_rfl) ?_; conv => whnf)
        | (refine Fc.use (hc) ?_ ?_; (focus ((repeat' constructor); done)); conv => whnf)
        | (refine CallQ.of (hc) ?_ ?_; (focus ((repeat' constructor); done)); conv => whnf)
        | (refine Tr.of_body tabOk q_probe_told_frame_Frame (by kernel_rfl) ?_; conv => whnf)
        | (refine Tr.of_body tabOk q_probe_Give_1 (by kernel_rfl) ?_; conv => whnf)
        | (refine Fc.use (hi) ?_ ?_; (focus ((repeat' constructor); done)); conv => whnf)
        | (refine CallQ.of (hi) ?_ ?_; (focus ((repeat' constructor); done)); conv => whnf))
      all_goals repeat' constructor
  · rw [show giveF a f chunk = FZ from if_neg (fun h => ht h.1), show decide (giveB a f chunk) = false from decide_eq_false (fun h => ht h.1)]
    exact c_Give_no a ha f hf chunk ht
end Go.Proofs.YtmjpidjdbofdjaaGreat
namespace Go.Proofs.YtmjpidjdbofdjaaGreat
open Go Go.Sy
theorem c_EqualFunc (a b : List Ent) (ha : ∀ e ∈ a, e.bd) (hl : a.length < 2 ^ 40) : Fc Tryz.prog n_slices_EqualFunc_LEntry_LEntry_Entry_Entry [ents a, ents b, .clo (.func n_entry_Same) [] []] (sb (decide (a = b))) := by
  refine Fc.of_body tabOk q_slices_EqualFunc_LEntry_LEntry_Entry_Entry (by kernel_rfl) ((blwL_cons (blw_ents 0 a) (blwL_cons (blw_ents 0 b) (blwL_one rfl)))) (rfl) ?_
  conv => whnf
  refine nsp ?_ ?_ <;> intro h <;> (simp only [List.length_map] at h) <;> conv => whnf
  · exact sbF (by intro e; apply h; rw [e])
  · have hle : a.length = b.length := by omega
    refine loopP tabOk (fun i : Nat => i ≤ a.length ∧ a.take i = b.take i) (fun i => ⟨[(17, iv i), (16, iv (a.map Ent.sv).length), (15, ents a), (0, ents a), (1, ents b), (2, .clo (.func n_entry_Same) [] [])], []⟩) (fun _ => ⟨0, [], []⟩) (fun i => a.length - i) 0 (by simp) (by repeat' constructor) (fun _ => rfl) ?_
    rintro i ⟨hi, hp⟩
    conv => whnf
    refine dsp ?_ ?_ <;> intro hlt <;> (simp only [List.length_map] at hlt) <;> conv => whnf
    · obtain ⟨x, hx⟩ : ∃ x, a[i]? = some x := ⟨_, List.getElem?_eq_getElem (by omega)⟩
      obtain ⟨y, hy⟩ : ∃ x, b[i]? = some x := ⟨_, List.getElem?_eq_getElem (by omega)⟩
      have hs := c_entry_Same x y (ha x (List.mem_of_getElem? hx))
      by_cases hxy : x = y
      · rw [decide_eq_true hxy] at hs
        repeat' (first
          | (refine bltG (by first | omega | (simp only [List.length_map] at *; omega)) ?_; conv => whnf)
          | (refine ndG (by assumption) ?_; conv => whnf)
          | (refine mulG ?_; conv => whnf)
          | (refine And.intro rfl ?_; conv => whnf)
          | (refine dsT (by assumption) ?_; conv => whnf)
          | (refine dsF (by assumption) ?_; conv => whnf)
          | (refine nsT (by assumption) ?_; conv => whnf)
          | (refine nsF (by assumption) ?_; conv => whnf)
          | (refine bsT (by assumption) ?_; conv => whnf)
          | (refine bsF (by assumption) ?_; conv => whnf)
          | (refine dsp ?_ ?_ <;> intro _ <;> conv => whnf)
          | (refine nsp ?_ ?_ <;> intro _ <;> conv => whnf)
          | (refine cnd_true (by assumption) ?_; conv => whnf)
          | (refine cnd_false (by assumption) ?_; conv => whnf)
          | (refine cnd_split ?_ ?_ <;> intro _ <;> conv => whnf)
          | (refine Cd.par tabOk (by kernel_rfl) (by kernel_rfl) ?_; conv => whnf)
          | (refine Fc.use (hs) ?_ ?_; (focus ((repeat' constructor); done)); conv => whnf)
          | (refine CallQ.of (hs) ?_ ?_; (focus ((repeat' constructor); done)); conv => whnf))
        refine ⟨i + 1, ⟨by omega, by rw [List.take_add_one, List.take_add_one, hx, hy, hp, hxy]⟩, ?_, ⟨?_, rfl, ?_, ?_, rfl, ?_⟩⟩
        · first | omega | (simp only [List.length_map] at *; omega)
        · (repeat' constructor) <;> first | (refine ivW ?_ ?_ ?_ <;> first | omega | (dsimp only; omega))
        · (repeat' (first | constructor))
        · repeat' constructor
        · first | exact .inl rfl | exact .inr ⟨by simp [blwE, blw, blwL, blwB, blwX, blwR, blw_iv, blw_ints, blw_ents, blw_ent, blw_val, blw_ar, blwL_map (blw_ent _), blwL_map (blw_iv _), sb, ss] <;> rfl, rfl, by simp [blwE, blw, blwL, blwB, blwX, blwR, blw_iv, blw_ints, blw_ents, blw_ent, blw_val, blw_ar, blwL_map (blw_ent _), blwL_map (blw_iv _), sb, ss] <;> rfl, by simp [blwE, blw, blwL, blwB, blwX, blwR, blw_iv, blw_ints, blw_ents, blw_ent, blw_val, blw_ar, blwL_map (blw_ent _), blwL_map (blw_iv _), sb, ss]⟩
      · rw [decide_eq_false hxy] at hs
        repeat' (first
          | (refine bltG (by first | omega | (simp only [List.length_map] at *; omega)) ?_; conv => whnf)
          | (refine ndG (by assumption) ?_; conv => whnf)
          | (refine mulG ?_; conv => whnf)
          | (refine And.intro rfl ?_; conv => whnf)
          | (refine dsT (by assumption) ?_; conv => whnf)
          | (refine dsF (by assumption) ?_; conv => whnf)
          | (refine nsT (by assumption) ?_; conv => whnf)
          | (refine nsF (by assumption) ?_; conv => whnf)
          | (refine bsT (by assumption) ?_; conv => whnf)
          | (refine bsF (by assumption) ?_; conv => whnf)
          | (refine dsp ?_ ?_ <;> intro _ <;> conv => whnf)
          | (refine nsp ?_ ?_ <;> intro _ <;> conv => whnf)
          | (refine cnd_true (by assumption) ?_; conv => whnf)
          | (refine cnd_false (by assumption) ?_; conv => whnf)
          | (refine cnd_split ?_ ?_ <;> intro _ <;> conv => whnf)
          | (refine Cd.par tabOk (by kernel_rfl) (by kernel_rfl) ?_; conv => whnf)
          | (refine Fc.use (hs) ?_ ?_; (focus ((repeat' constructor); done)); conv => whnf)
          | (refine CallQ.of (hs) ?_ ?_; (focus ((repeat' constructor); done)); conv => whnf))
        exact sbF (by intro e; subst e; rw [hx] at hy; exact hxy (Option.some.inj hy))
    · repeat' (first
        | (refine bltG (by first | omega | (simp only [List.length_map] at *; omega)) ?_; conv => whnf)
        | (refine ndG (by assumption) ?_; conv => whnf)
        | (refine mulG ?_; conv => whnf)
        | (refine And.intro rfl ?_; conv => whnf)
        | (refine dsT (by assumption) ?_; conv => whnf)
        | (refine dsF (by assumption) ?_; conv => whnf)
        | (refine nsT (by assumption) ?_; conv => whnf)
        | (refine nsF (by assumption) ?_; conv => whnf)
        | (refine bsT (by assumption) ?_; conv => whnf)
        | (refine bsF (by assumption) ?_; conv => whnf)
        | (refine dsp ?_ ?_ <;> intro _ <;> conv => whnf)
        | (refine nsp ?_ ?_ <;> intro _ <;> conv => whnf)
        | (refine cnd_true (by assumption) ?_; conv => whnf)
        | (refine cnd_false (by assumption) ?_; conv => whnf)
        | (refine cnd_split ?_ ?_ <;> intro _ <;> conv => whnf)
        | (refine Cd.par tabOk (by kernel_rfl) (by kernel_rfl) ?_; conv => whnf))
      exact sbT (by rw [List.take_of_length_le (by omega), List.take_of_length_le (by omega)] at hp; exact hp)
theorem Fra.ext_iff (a b : Fra) : a = b ↔ a.typ = b.typ ∧ a.a = b.a ∧ a.b = b.b ∧ [a.l0, a.l1, a.l2, a.l3] = [b.l0, b.l1, b.l2, b.l3] ∧ a.es = b.es := by
  cases a; cases b; simp [and_assoc]
theorem c_frame_Same (a b : Fra) (ha : a.bd) : Fc Tryz.prog n_frame_Same [a.sv, b.sv] (sb (decide (a = b))) := by
  have h := c_EqualFunc a.es b.es ha.1 ha.2
  refine Fc.of_body tabOk q_frame_Same (by kernel_rfl) ((blwL_cons (blw_fra 0 a) (blwL_one (blw_fra 0 b)))) (rfl) ?_
  conv => whnf
  rw [show decide (a = b) = decide (a.typ = b.typ ∧ a.a = b.a ∧ a.b = b.b ∧ [a.l0, a.l1, a.l2, a.l3] = [b.l0, b.l1, b.l2, b.l3] ∧ a.es = b.es) from decide_eq_decide.2 (Fra.ext_iff a b)]
  repeat' (first
    | (refine agg4d ?_; conv => whnf)
    | (refine bltG (by first | omega | (simp only [List.length_map] at *; omega)) ?_; conv => whnf)
    | (refine ndG (by assumption) ?_; conv => whnf)
    | (refine mulG ?_; conv => whnf)
    | (refine And.intro rfl ?_; conv => whnf)
    | (refine dsT (by assumption) ?_; conv => whnf)
    | (refine dsF (by assumption) ?_; conv => whnf)
    | (refine nsT (by assumption) ?_; conv => whnf)
    | (refine nsF (by assumption) ?_; conv => whnf)
    | (refine bsT (by assumption) ?_; conv => whnf)
    | (refine bsF (by assumption) ?_; conv => whnf)
    | (refine dsp ?_ ?_ <;> intro _ <;> conv => whnf)
    | (refine nsp ?_ ?_ <;> intro _ <;> conv => whnf)
    | (refine cnd_true (by assumption) ?_; conv => whnf)
    | (refine cnd_false (by assumption) ?_; conv => whnf)
    | (refine cnd_split ?_ ?_ <;> intro _ <;> conv => whnf)
    | (refine Cd.par tabOk (by kernel_rfl) (by kernel_rfl) ?_; conv => whnf)
    | (refine Fc.use (h) ?_ ?_; (focus ((repeat' constructor); done)); conv => whnf)
    | (refine CallQ.of (h) ?_ ?_; (focus ((repeat' constructor); done)); conv => whnf))
  all_goals first
    | rfl
    | (refine sbT ?_; ((try simp only [List.length_map] at *); first | omega | grind))
    | (refine sbF ?_; ((try simp only [List.length_map] at *); first | omega | grind))
    | (refine sbD ?_; ((try simp only [List.length_map] at *); first | omega | grind))
    | (refine sbB ?_; ((try simp only [List.length_map] at *); first | omega | grind))
    | (refine ivT ?_; ((try simp only [List.length_map] at *); first | omega | grind))
    | (refine ivF ?_; ((try simp only [List.length_map] at *); first | omega | grind))
    | (refine ivD ?_; ((try simp only [List.length_map] at *); first | omega | grind))
end Go.Proofs.YtmjpidjdbofdjaaGreat
namespace Go.Proofs.YtmjpidjdbofdjaaGreat
open Go Go.Sy
/-- Is an entry below one of a list that has its name? -/
def bl1 (l : List Ent) (e : Ent) : Bool := match l.findIdx? (isN e.val.kind e.key) with | some i => (match l[i]? with | some y => decide (joinE e y = y) | none => false) | none => false
def belowB (a b : Ar) : Prop := arOk a ∧ arOk b ∧ ∀ e ∈ a.slots, bl1 b.slots e = true
instance (a b : Ar) : Decidable (belowB a b) := by unfold belowB; infer_instance
theorem c_Below_no (a b : Ar) (ha : a.bd) (hb : b.bd) (h : ¬ (arOk a ∧ arOk b)) : Fc Tryz.prog n_arena_Below [a.sv, b.sv] (sb false) := by
  have ca := c_arena_Check a ha
  have cb := c_arena_Check b hb
  unfold en at ca cb
  by_cases h1 : arOk a
  · have h2 : ¬ arOk b := fun h2 => h ⟨h1, h2⟩
    rw [if_pos h1] at ca
    rw [if_neg h2] at cb
    refine Fc.of_body tabOk q_arena_Below (by kernel_rfl) ((blwL_cons (blw_ar 0 a) (blwL_one (blw_ar 0 b)))) (rfl) ?_
    conv => whnf
    repeat' (first
      | (refine bltG (by first | omega | (simp only [List.length_map] at *; omega)) ?_; conv => whnf)
      | (refine ndG (by assumption) ?_; conv => whnf)
      | (refine mulG ?_; conv => whnf)
      | (refine And.intro rfl ?_; conv => whnf)
      | (refine dsT (by assumption) ?_; conv => whnf)
      | (refine dsF (by assumption) ?_; conv => whnf)
      | (refine nsT (by assumption) ?_; conv => whnf)
      | (refine nsF (by assumption) ?_; conv => whnf)
      | (refine bsT (by assumption) ?_; conv => whnf)
      | (refine bsF (by assumption) ?_; conv => whnf)
      | (refine dsp ?_ ?_ <;> intro _ <;> conv => whnf)
      | (refine nsp ?_ ?_ <;> intro _ <;> conv => whnf)
      | (refine cnd_true (by assumption) ?_; conv => whnf)
      | (refine cnd_false (by assumption) ?_; conv => whnf)
      | (refine cnd_split ?_ ?_ <;> intro _ <;> conv => whnf)
      | (refine Cd.par tabOk (by kernel_rfl) (by kernel_rfl) ?_; conv => whnf)
      | (refine Fc.use (ca) ?_ ?_; (focus ((repeat' constructor); done)); conv => whnf)
      | (refine CallQ.of (ca) ?_ ?_; (focus ((repeat' constructor); done)); conv => whnf)
      | (refine Fc.use (cb) ?_ ?_; (focus ((repeat' constructor); done)); conv => whnf)
      | (refine CallQ.of (cb) ?_ ?_; (focus ((repeat' constructor); done)); conv => whnf))
    all_goals repeat' constructor
  · rw [if_neg h1] at ca
    refine Fc.of_body tabOk q_arena_Below (by kernel_rfl) ((blwL_cons (blw_ar 0 a) (blwL_one (blw_ar 0 b)))) (rfl) ?_
    conv => whnf
    repeat' (first
      | (refine bltG (by first | omega | (simp only [List.length_map] at *; omega)) ?_; conv => whnf)
      | (refine ndG (by assumption) ?_; conv => whnf)
      | (refine mulG ?_; conv => whnf)
      | (refine And.intro rfl ?_; conv => whnf)
      | (refine dsT (by assumption) ?_; conv => whnf)
      | (refine dsF (by assumption) ?_; conv => whnf)
      | (refine nsT (by assumption) ?_; conv => whnf)
      | (refine nsF (by assumption) ?_; conv => whnf)
      | (refine bsT (by assumption) ?_; conv => whnf)
      | (refine bsF (by assumption) ?_; conv => whnf)
      | (refine dsp ?_ ?_ <;> intro _ <;> conv => whnf)
      | (refine nsp ?_ ?_ <;> intro _ <;> conv => whnf)
      | (refine cnd_true (by assumption) ?_; conv => whnf)
      | (refine cnd_false (by assumption) ?_; conv => whnf)
      | (refine cnd_split ?_ ?_ <;> intro _ <;> conv => whnf)
      | (refine Cd.par tabOk (by kernel_rfl) (by kernel_rfl) ?_; conv => whnf)
      | (refine Fc.use (ca) ?_ ?_; (focus ((repeat' constructor); done)); conv => whnf)
      | (refine CallQ.of (ca) ?_ ?_; (focus ((repeat' constructor); done)); conv => whnf))
    all_goals repeat' constructor
theorem c_Below_yes (a b : Ar) (ha : a.bd) (hb : b.bd) (hka : arOk a) (hkb : arOk b) : Fc Tryz.prog n_arena_Below [a.sv, b.sv] (sb (decide (∀ e ∈ a.slots, bl1 b.slots e = true))) := by
  have ca := c_arena_Check a ha
  have cb := c_arena_Check b hb
  unfold en at ca cb
  rw [if_pos hka] at ca
  rw [if_pos hkb] at cb
  have hlen : a.slots.length ≤ 8 := by have h1 := hka.2.1; have h2 := hka.2.2.1; omega
  have hN : (a.slots.map Ent.sv).length = a.slots.length := List.length_map ..
  refine Fc.of_body tabOk q_arena_Below (by kernel_rfl) ((blwL_cons (blw_ar 0 a) (blwL_one (blw_ar 0 b)))) (rfl) ?_
  conv => whnf
  repeat' (first
    | (refine bltG (by first | omega | (simp only [List.length_map] at *; omega)) ?_; conv => whnf)
    | (refine ndG (by assumption) ?_; conv => whnf)
    | (refine mulG ?_; conv => whnf)
    | (refine And.intro rfl ?_; conv => whnf)
    | (refine dsT (by assumption) ?_; conv => whnf)
    | (refine dsF (by assumption) ?_; conv => whnf)
    | (refine nsT (by assumption) ?_; conv => whnf)
    | (refine nsF (by assumption) ?_; conv => whnf)
    | (refine bsT (by assumption) ?_; conv => whnf)
    | (refine bsF (by assumption) ?_; conv => whnf)
    | (refine dsp ?_ ?_ <;> intro _ <;> conv => whnf)
    | (refine nsp ?_ ?_ <;> intro _ <;> conv => whnf)
    | (refine cnd_true (by assumption) ?_; conv => whnf)
    | (refine cnd_false (by assumption) ?_; conv => whnf)
    | (refine cnd_split ?_ ?_ <;> intro _ <;> conv => whnf)
    | (refine Cd.par tabOk (by kernel_rfl) (by kernel_rfl) ?_; conv => whnf)
    | (refine Fc.use (ca) ?_ ?_; (focus ((repeat' constructor); done)); conv => whnf)
    | (refine CallQ.of (ca) ?_ ?_; (focus ((repeat' constructor); done)); conv => whnf)
    | (refine Fc.use (cb) ?_ ?_; (focus ((repeat' constructor); done)); conv => whnf)
    | (refine CallQ.of (cb) ?_ ?_; (focus ((repeat' constructor); done)); conv => whnf)
    | (refine Tr.of_body tabOk q_arena_each (by kernel_rfl) ?_; conv => whnf))
  refine Cd.rangeFunc [(2, .loc 0 0), (3, .loc 1 0), (4, .loc 2 0)] (by repeat' constructor) ?_
  conv => whnf
  refine And.intro ⟨_, q_arena_each_1, by kernel_rfl⟩ ?_
  refine Tr.of_body tabOk q_arena_each_1 (by kernel_rfl) ?_
  conv => whnf
  repeat' (first
    | (refine bltG (by first | omega | (simp only [List.length_map] at *; omega)) ?_; conv => whnf)
    | (refine ndG (by assumption) ?_; conv => whnf)
    | (refine mulG ?_; conv => whnf)
    | (refine And.intro rfl ?_; conv => whnf)
    | (refine dsT (by assumption) ?_; conv => whnf)
    | (refine dsF (by assumption) ?_; conv => whnf)
    | (refine nsT (by assumption) ?_; conv => whnf)
    | (refine nsF (by assumption) ?_; conv => whnf)
    | (refine bsT (by assumption) ?_; conv => whnf)
    | (refine bsF (by assumption) ?_; conv => whnf)
    | (refine dsp ?_ ?_ <;> intro _ <;> conv => whnf)
    | (refine nsp ?_ ?_ <;> intro _ <;> conv => whnf)
    | (refine cnd_true (by assumption) ?_; conv => whnf)
    | (refine cnd_false (by assumption) ?_; conv => whnf)
    | (refine cnd_split ?_ ?_ <;> intro _ <;> conv => whnf)
    | (refine Cd.par tabOk (by kernel_rfl) (by kernel_rfl) ?_; conv => whnf)
    | (refine Fc.use (ca) ?_ ?_; (focus ((repeat' constructor); done)); conv => whnf)
    | (refine CallQ.of (ca) ?_ ?_; (focus ((repeat' constructor); done)); conv => whnf))
  refine loopP tabOk (fun i : Nat => i ≤ a.slots.length ∧ ∀ x ∈ a.slots.take i, bl1 b.slots x = true)
    (fun i => ⟨[(11, iv i), (10, iv (a.slots.map Ent.sv).length), (9, ents a.slots), (0, .yld 4), (1, .loc 3 0)], []⟩)
    (fun i => ⟨5, [.c [iv a.cap, ents a.slots, ints a.index], .c [iv b.cap, ents b.slots, ints b.index], .c [sb false], .c [iv a.cap, ents a.slots, ints a.index], .lp ⟨.ready, none, F_arena_Below.ntmps, [(2, .loc 0 0), (3, .loc 1 0), (4, .loc 2 0)], _, _, _⟩], []⟩)
    (fun i => a.slots.length - i) 0 ⟨Nat.zero_le _, by simp⟩ (by repeat' constructor) (fun _ => rfl) ?_
  rintro i ⟨hi, hp⟩
  conv => whnf
  refine dsp ?_ ?_ <;> intro hlt <;> conv => whnf
  · rw [hN] at hlt
    obtain ⟨x, hx⟩ : ∃ x, a.slots[i]? = some x := ⟨_, List.getElem?_eq_getElem (by omega)⟩
    have hxm := List.mem_of_getElem? hx
    have hok := hka.2.2.2.1 x hxm
    have hf := c_arena_Find1 b hb hkb x.val.kind x.key
    have hp' : bl1 b.slots x = true → ∀ y ∈ a.slots.take (i + 1), bl1 b.slots y = true := by
      intro h1 y hy
      rw [List.take_add_one, hx] at hy
      rcases List.mem_append.1 hy with hy | hy
      · exact hp y hy
      · simp at hy; subst hy; exact h1
    have hn' : bl1 b.slots x = false → ¬ ∀ e ∈ a.slots, bl1 b.slots e = true := fun h1 h2 => by rw [h2 x hxm] at h1; cases h1
    cases hfi : b.slots.findIdx? (isN x.val.kind x.key) with
    | none =>
      have hz : findZ b.slots x.val.kind x.key = -1 := by unfold findZ; rw [hfi]
      have hbl : bl1 b.slots x = false := by unfold bl1; rw [hfi]
      rw [hz] at hf
      repeat' (first
        | (refine bltG (by first | omega | (simp only [List.length_map] at *; omega)) ?_; conv => whnf)
        | (refine ndG (by assumption) ?_; conv => whnf)
        | (refine mulG ?_; conv => whnf)
        | (refine And.intro rfl ?_; conv => whnf)
        | (refine dsT (by assumption) ?_; conv => whnf)
        | (refine dsF (by assumption) ?_; conv => whnf)
        | (refine nsT (by assumption) ?_; conv => whnf)
        | (refine nsF (by assumption) ?_; conv => whnf)
        | (refine bsT (by assumption) ?_; conv => whnf)
        | (refine bsF (by assumption) ?_; conv => whnf)
        | (refine dsp ?_ ?_ <;> intro _ <;> conv => whnf)
        | (refine nsp ?_ ?_ <;> intro _ <;> conv => whnf)
        | (refine cnd_true (by assumption) ?_; conv => whnf)
        | (refine cnd_false (by assumption) ?_; conv => whnf)
        | (refine cnd_split ?_ ?_ <;> intro _ <;> conv => whnf)
        | (refine Cd.par tabOk (by kernel_rfl) (by kernel_rfl) ?_; conv => whnf)
        | (refine Fc.use (hf) ?_ ?_; (focus ((repeat' constructor); done)); conv => whnf)
        | (refine CallQ.of (hf) ?_ ?_; (focus ((repeat' constructor); done)); conv => whnf)
        | (refine RdQ.of_vc tabOk ?_; (conv => whnf); intro _; conv => whnf))
      exact sbF (hn' hbl)
    | some j =>
      obtain ⟨hj, hjp, _⟩ := List.findIdx?_eq_some_iff_getElem.1 hfi
      have hz : findZ b.slots x.val.kind x.key = j := by unfold findZ; rw [hfi]
      obtain ⟨y, hy⟩ : ∃ y, b.slots[j]? = some y := ⟨_, List.getElem?_eq_getElem hj⟩
      have hyj : b.slots[j] = y := Option.some.inj ((List.getElem?_eq_getElem hj).symm.trans hy)
      rw [hyj] at hjp
      have hnm : named x y := by unfold isN at hjp; simp at hjp; exact ⟨hjp.1.symm, hjp.2.symm⟩
      have hoky := hkb.2.2.2.1 y (List.mem_of_getElem? hy)
      have hJ := c_entry_Join x y hok hoky hnm
      have hS := c_entry_Same (joinE x y) y (joinE_ok hok hoky hnm).bd
      rw [hz] at hf
      by_cases hjy : joinE x y = y
      · have hbl : bl1 b.slots x = true := by unfold bl1; rw [hfi]; simp only [hy]; exact decide_eq_true hjy
        rw [decide_eq_true hjy] at hS
        generalize joinE x y = z at hJ hS
        repeat' (first
          | (refine Cd.parT tabOk (by kernel_rfl) [10, 11] rfl ?_; conv => whnf)
          | (refine bltG (by first | omega | (simp only [List.length_map] at *; omega)) ?_; conv => whnf)
          | (refine ndG (by assumption) ?_; conv => whnf)
          | (refine mulG ?_; conv => whnf)
          | (refine And.intro rfl ?_; conv => whnf)
          | (refine dsT (by assumption) ?_; conv => whnf)
          | (refine dsF (by assumption) ?_; conv => whnf)
          | (refine nsT (by assumption) ?_; conv => whnf)
          | (refine nsF (by assumption) ?_; conv => whnf)
          | (refine bsT (by assumption) ?_; conv => whnf)
          | (refine bsF (by assumption) ?_; conv => whnf)
          | (refine dsp ?_ ?_ <;> intro _ <;> conv => whnf)
          | (refine nsp ?_ ?_ <;> intro _ <;> conv => whnf)
          | (refine cnd_true (by assumption) ?_; conv => whnf)
          | (refine cnd_false (by assumption) ?_; conv => whnf)
          | (refine cnd_split ?_ ?_ <;> intro _ <;> conv => whnf)
          | (refine Cd.par tabOk (by kernel_rfl) (by kernel_rfl) ?_; conv => whnf)
          | (refine Fc.use (hf) ?_ ?_; (focus ((repeat' constructor); done)); conv => whnf)
          | (refine CallQ.of (hf) ?_ ?_; (focus ((repeat' constructor); done)); conv => whnf)
          | (refine Fc.use (hJ) ?_ ?_; (focus ((repeat' constructor); done)); conv => whnf)
          | (refine CallQ.of (hJ) ?_ ?_; (focus ((repeat' constructor); done)); conv => whnf)
          | (refine Fc.use (hS) ?_ ?_; (focus ((repeat' constructor); done)); conv => whnf)
          | (refine CallQ.of (hS) ?_ ?_; (focus ((repeat' constructor); done)); conv => whnf)
          | (refine RdQ.of_vc tabOk ?_; (conv => whnf); intro _; conv => whnf)
          | rfl
          | exact True.intro
          | (refine And.intro ?_ ?_ <;> conv => whnf))
        refine ⟨i + 1, ⟨by omega, hp' hbl⟩, ?_, ⟨?_, rfl, ?_, ?_, rfl, ?_⟩⟩
        · first | omega | (simp only [List.length_map] at *; omega)
        · (repeat' constructor) <;> first | (refine ivW ?_ ?_ ?_ <;> first | omega | (dsimp only; omega))
        · (repeat' (first | constructor))
        · repeat' constructor
        · first | exact .inl rfl | exact .inr ⟨by simp [blwE, blw, blwL, blwB, blwX, blwR, blw_iv, blw_ints, blw_ents, blw_ent, blw_val, blw_ar, blwL_map (blw_ent _), blwL_map (blw_iv _), sb, ss] <;> rfl, rfl, by simp [blwE, blw, blwL, blwB, blwX, blwR, blw_iv, blw_ints, blw_ents, blw_ent, blw_val, blw_ar, blwL_map (blw_ent _), blwL_map (blw_iv _), sb, ss] <;> rfl, by simp [blwE, blw, blwL, blwB, blwX, blwR, blw_iv, blw_ints, blw_ents, blw_ent, blw_val, blw_ar, blwL_map (blw_ent _), blwL_map (blw_iv _), sb, ss]⟩
      · have hbl : bl1 b.slots x = false := by unfold bl1; rw [hfi]; simp only [hy]; exact decide_eq_false hjy
        rw [decide_eq_false hjy] at hS
        generalize joinE x y = z at hJ hS
        repeat' (first
          | (refine Cd.parT tabOk (by kernel_rfl) [10, 11] rfl ?_; conv => whnf)
          | (refine bltG (by first | omega | (simp only [List.length_map] at *; omega)) ?_; conv => whnf)
          | (refine ndG (by assumption) ?_; conv => whnf)
          | (refine mulG ?_; conv => whnf)
          | (refine And.intro rfl ?_; conv => whnf)
          | (refine dsT (by assumption) ?_; conv => whnf)
          | (refine dsF (by assumption) ?_; conv => whnf)
          | (refine nsT (by assumption) ?_; conv => whnf)
          | (refine nsF (by assumption) ?_; conv => whnf)
          | (refine bsT (by assumption) ?_; conv => whnf)
          | (refine bsF (by assumption) ?_; conv => whnf)
          | (refine dsp ?_ ?_ <;> intro _ <;> conv => whnf)
          | (refine nsp ?_ ?_ <;> intro _ <;> conv => whnf)
          | (refine cnd_true (by assumption) ?_; conv => whnf)
          | (refine cnd_false (by assumption) ?_; conv => whnf)
          | (refine cnd_split ?_ ?_ <;> intro _ <;> conv => whnf)
          | (refine Cd.par tabOk (by kernel_rfl) (by kernel_rfl) ?_; conv => whnf)
          | (refine Fc.use (hf) ?_ ?_; (focus ((repeat' constructor); done)); conv => whnf)
          | (refine CallQ.of (hf) ?_ ?_; (focus ((repeat' constructor); done)); conv => whnf)
          | (refine Fc.use (hJ) ?_ ?_; (focus ((repeat' constructor); done)); conv => whnf)
          | (refine CallQ.of (hJ) ?_ ?_; (focus ((repeat' constructor); done)); conv => whnf)
          | (refine Fc.use (hS) ?_ ?_; (focus ((repeat' constructor); done)); conv => whnf)
          | (refine CallQ.of (hS) ?_ ?_; (focus ((repeat' constructor); done)); conv => whnf)
          | (refine RdQ.of_vc tabOk ?_; (conv => whnf); intro _; conv => whnf)
          | rfl
          | exact True.intro
          | (refine And.intro ?_ ?_ <;> conv => whnf))
        exact sbF (hn' hbl)
  · rw [hN] at hlt
    have hie : i = a.slots.length := by omega
    subst hie
    rw [List.take_of_length_le (Nat.le_refl _)] at hp
    repeat' (first
      | (refine bltG (by first | omega | (simp only [List.length_map] at *; omega)) ?_; conv => whnf)
      | (refine ndG (by assumption) ?_; conv => whnf)
      | (refine mulG ?_; conv => whnf)
      | (refine And.intro rfl ?_; conv => whnf)
      | (refine dsT (by assumption) ?_; conv => whnf)
      | (refine dsF (by assumption) ?_; conv => whnf)
      | (refine nsT (by assumption) ?_; conv => whnf)
      | (refine nsF (by assumption) ?_; conv => whnf)
      | (refine bsT (by assumption) ?_; conv => whnf)
      | (refine bsF (by assumption) ?_; conv => whnf)
      | (refine dsp ?_ ?_ <;> intro _ <;> conv => whnf)
      | (refine nsp ?_ ?_ <;> intro _ <;> conv => whnf)
      | (refine cnd_true (by assumption) ?_; conv => whnf)
      | (refine cnd_false (by assumption) ?_; conv => whnf)
      | (refine cnd_split ?_ ?_ <;> intro _ <;> conv => whnf)
      | (refine Cd.par tabOk (by kernel_rfl) (by kernel_rfl) ?_; conv => whnf))
    exact sbT hp
theorem c_Below (a b : Ar) (ha : a.bd) (hb : b.bd) : Fc Tryz.prog n_arena_Below [a.sv, b.sv] (sb (decide (belowB a b))) := by
  by_cases h : arOk a ∧ arOk b
  · have h1 := c_Below_yes a b ha hb h.1 h.2
    rwa [show decide (∀ e ∈ a.slots, bl1 b.slots e = true) = decide (belowB a b) from decide_eq_decide.2 ⟨fun x => ⟨h.1, h.2, x⟩, fun x => x.2.2⟩] at h1
  · have h1 := c_Below_no a b ha hb h
    rwa [show false = decide (belowB a b) from (decide_eq_false (fun x => h ⟨x.1, x.2.1⟩)).symm] at h1
def alikeB (a b : Ar) : Prop := belowB a b ∧ belowB b a
instance (a b : Ar) : Decidable (alikeB a b) := by unfold alikeB; infer_instance
theorem c_Alike (a b : Ar) (ha : a.bd) (hb : b.bd) : Fc Tryz.prog n_arena_Alike [a.sv, b.sv] (sb (decide (alikeB a b))) := by
  have h1 := c_Below a b ha hb
  have h2 := c_Below b a hb ha
  refine Fc.of_body tabOk q_arena_Alike (by kernel_rfl) ((blwL_cons (blw_ar 0 a) (blwL_one (blw_ar 0 b)))) (rfl) ?_
  conv => whnf
  repeat' (first
    | (refine bltG (by first | omega | (simp only [List.length_map] at *; omega)) ?_; conv => whnf)
    | (refine ndG (by assumption) ?_; conv => whnf)
    | (refine mulG ?_; conv => whnf)
    | (refine And.intro rfl ?_; conv => whnf)
    | (refine dsT (by assumption) ?_; conv => whnf)
    | (refine dsF (by assumption) ?_; conv => whnf)
    | (refine nsT (by assumption) ?_; conv => whnf)
    | (refine nsF (by assumption) ?_; conv => whnf)
    | (refine bsT (by assumption) ?_; conv => whnf)
    | (refine bsF (by assumption) ?_; conv => whnf)
    | (refine dsp ?_ ?_ <;> intro _ <;> conv => whnf)
    | (refine nsp ?_ ?_ <;> intro _ <;> conv => whnf)
    | (refine cnd_true (by assumption) ?_; conv => whnf)
    | (refine cnd_false (by assumption) ?_; conv => whnf)
    | (refine cnd_split ?_ ?_ <;> intro _ <;> conv => whnf)
    | (refine Cd.par tabOk (by kernel_rfl) (by kernel_rfl) ?_; conv => whnf)
    | (refine Fc.use (h1) ?_ ?_; (focus ((repeat' constructor); done)); conv => whnf)
    | (refine CallQ.of (h1) ?_ ?_; (focus ((repeat' constructor); done)); conv => whnf)
    | (refine Fc.use (h2) ?_ ?_; (focus ((repeat' constructor); done)); conv => whnf)
    | (refine CallQ.of (h2) ?_ ?_; (focus ((repeat' constructor); done)); conv => whnf))
  all_goals first
    | rfl
    | (refine sbT ?_; ((try simp only [List.length_map, alikeB] at *); first | omega | grind))
    | (refine sbF ?_; ((try simp only [List.length_map, alikeB] at *); first | omega | grind))
    | (refine sbD ?_; ((try simp only [List.length_map, alikeB] at *); first | omega | grind))
    | (refine sbB ?_; ((try simp only [List.length_map, alikeB] at *); first | omega | grind))
    | (refine ivT ?_; ((try simp only [List.length_map, alikeB] at *); first | omega | grind))
    | (refine ivF ?_; ((try simp only [List.length_map, alikeB] at *); first | omega | grind))
    | (refine ivD ?_; ((try simp only [List.length_map, alikeB] at *); first | omega | grind))
end Go.Proofs.YtmjpidjdbofdjaaGreat

