import Derived.Test.YtmjpidjdbofdjaaVo
/- The law SweepBounds. -/
set_option linter.unusedVariables false
set_option linter.unusedSimpArgs false
set_option maxRecDepth 100000
set_option maxHeartbeats 1600000
namespace Go.Proofs.Ytmjpidjdbofdjaa
open Go Go.Sy
theorem sel_all (l : List Ent) (m n : Nat) : sel l m n l.length = (l.drop m).take n := by unfold sel; rw [List.take_length]
theorem sent_ok (a : Ar) (hk : arOk a) (m n : Nat) (hm : m ≤ 8) (hn : n ≤ 8) : frOk (sent a m n) ∧ (sent a m n).typ = 6 := by
  refine ⟨?_, rfl⟩
  unfold frOk
  right; right; right; right; right; left
  refine ⟨rfl, ?_⟩
  unfold fr6
  refine ⟨(by decide +kernel : digOk 0 0 0 0), by simp only [sent]; omega, by simp only [sent]; omega, by simp only [sent]; omega, by simp only [sent]; omega, rfl, ?_, ?_⟩
  · simp only [sent, sel_all, List.length_take, List.length_drop]; omega
  · intro e he
    simp only [sent, sel_all] at he
    exact hk.2.2.2.1 e (List.mem_of_mem_drop (List.mem_of_mem_take he))
theorem bounds_law (a : Ar) (c n : Int) : Fc Try.prog n_ouroboroslaw19_SweepBounds [a.sv, iv c, iv n] (sb true) := by
  have hw := c_works
  have hfa := c_law08_Few a
  by_cases few : arFew a
  case neg =>
    refine Fc.of_body tabOk q_ouroboroslaw19_SweepBounds (by kernel_rfl) ((blwL_cons (blw_ar 0 a) (blwL_cons rfl (blwL_one rfl)))) (rfl) ?_
    conv => whnf
    repeat' (first
      | (refine bltG (by first | omega | (simp only [List.length_map] at *; omega)) ?_; conv => whnf)
      | (refine ndG (by assumption) ?_; conv => whnf)
      | (refine mulG ?_; conv => whnf)
      | (refine And.intro rfl ?_; conv => whnf)
      | (refine dsT (by assumption) ?_; conv => whnf)
      | (refine dsF (by assumption) ?_; conv => whnf)
      | (refine nsT (by assumption) ?_; conv => whnf)
      | (refine nsF (by assumption) ?_; conv => whnf)
      | (refine bsT (by assumption) ?_; conv => whnf)
      | (refine bsF (by assumption) ?_; conv => whnf)
      | (refine dsp ?_ ?_ <;> intro _ <;> conv => whnf)
      | (refine nsp ?_ ?_ <;> intro _ <;> conv => whnf)
      | (refine cnd_true (by assumption) ?_; conv => whnf)
      | (refine cnd_false (by assumption) ?_; conv => whnf)
      | (refine cnd_split ?_ ?_ <;> intro _ <;> conv => whnf)
      | (refine Cd.par tabOk (by kernel_rfl) (by kernel_rfl) ?_; conv => whnf)
      | (refine Fc.use (hw) ?_ ?_; (focus ((repeat' constructor); done)); conv => whnf)
      | (refine CallQ.of (hw) ?_ ?_; (focus ((repeat' constructor); done)); conv => whnf)
      | (refine Fc.use (hfa) ?_ ?_; (focus ((repeat' constructor); done)); conv => whnf)
      | (refine CallQ.of (hfa) ?_ ?_; (focus ((repeat' constructor); done)); conv => whnf))
    all_goals rfl
  have ha : a.bd := few.bd
  have hck := c_arena_Check a ha
  have hme := c_sweep_Mend c a ha
  by_cases h : arOk a ∧ 0 < a.slots.length ∧ 1 ≤ n ∧ n ≤ 8
  case neg =>
    have hs := c_Send0 a ha c n h
    generalize mend c a = m at *
    refine Fc.of_body tabOk q_ouroboroslaw19_SweepBounds (by kernel_rfl) ((blwL_cons (blw_ar 0 a) (blwL_cons rfl (blwL_one rfl)))) (rfl) ?_
    conv => whnf
    repeat' (first
      | (refine bltG (by first | omega | (simp only [List.length_map] at *; omega)) ?_; conv => whnf)
      | (refine ndG (by assumption) ?_; conv => whnf)
      | (refine mulG ?_; conv => whnf)
      | (refine And.intro rfl ?_; conv => whnf)
      | (refine dsT (by assumption) ?_; conv => whnf)
      | (refine dsF (by assumption) ?_; conv => whnf)
      | (refine nsT (by assumption) ?_; conv => whnf)
      | (refine nsF (by assumption) ?_; conv => whnf)
      | (refine bsT (by assumption) ?_; conv => whnf)
      | (refine bsF (by assumption) ?_; conv => whnf)
      | (refine dsp ?_ ?_ <;> intro _ <;> conv => whnf)
      | (refine nsp ?_ ?_ <;> intro _ <;> conv => whnf)
      | (refine cnd_true (by assumption) ?_; conv => whnf)
      | (refine cnd_false (by assumption) ?_; conv => whnf)
      | (refine cnd_split ?_ ?_ <;> intro _ <;> conv => whnf)
      | (refine Cd.par tabOk (by kernel_rfl) (by kernel_rfl) ?_; conv => whnf)
      | (refine Fc.use (hw) ?_ ?_; (focus ((repeat' constructor); done)); conv => whnf)
      | (refine CallQ.of (hw) ?_ ?_; (focus ((repeat' constructor); done)); conv => whnf)
      | (refine Fc.use (hfa) ?_ ?_; (focus ((repeat' constructor); done)); conv => whnf)
      | (refine CallQ.of (hfa) ?_ ?_; (focus ((repeat' constructor); done)); conv => whnf)
      | (refine Fc.use (hck) ?_ ?_; (focus ((repeat' constructor); done)); conv => whnf)
      | (refine CallQ.of (hck) ?_ ?_; (focus ((repeat' constructor); done)); conv => whnf)
      | (refine Fc.use (hme) ?_ ?_; (focus ((repeat' constructor); done)); conv => whnf)
      | (refine CallQ.of (hme) ?_ ?_; (focus ((repeat' constructor); done)); conv => whnf)
      | (refine Fc.use (hs) ?_ ?_; (focus ((repeat' constructor); done)); conv => whnf)
      | (refine CallQ.of (hs) ?_ ?_; (focus ((repeat' constructor); done)); conv => whnf))
    all_goals try simp only [List.length_map] at *
    all_goals first | rfl | (refine stT ?_; grind)
  obtain ⟨hk, h0, hn⟩ := h
  obtain ⟨k, rfl⟩ : ∃ k : Nat, n = k := ⟨n.toNat, by omega⟩
  have hlen : a.slots.length ≤ 8 := by have h1 := hk.2.1; have h2 := hk.2.2.1; omega
  obtain ⟨m, hm⟩ : ∃ m : Nat, mend c a = m := ⟨(mend c a).toNat, by have := mend_bd c a ha; omega⟩
  have hml : m < a.slots.length := by
    have : mend c a < a.slots.length := by unfold mend; split <;> omega
    omega
  have hs := c_Send1 a ha hk h0 c m k hm (by omega)
  have hfb : (sent a m k).bd := ⟨bd_sub ha.1, by simp only [sent, sel_all, List.length_take, List.length_drop]; omega⟩
  have hfc := c_frame_Check (sent a m k) hfb
  have hfo := (sent_ok a hk m k (by omega) (by omega)).1
  have hFa : (sent a m k).a = m := rfl
  have hFe : (sent a m k).es = (a.slots.drop m).take k := sel_all _ _ _
  have hE : (List.map Ent.sv (sent a m k).es).length = min k (a.slots.length - m) := by rw [hFe]; simp only [List.length_map, List.length_take, List.length_drop]
  rw [hm] at hme
  obtain ⟨L, hL, l1, l2, l3⟩ : ∃ L, L = min k (a.slots.length - m) ∧ 1 ≤ L ∧ L ≤ k ∧ m + L ≤ a.slots.length := ⟨_, rfl, by omega, by omega, by omega⟩
  rw [← hL] at hE
  generalize sent a m k = F at *
  have hw2 : IntKind.wrap .i64 ((m : Int) + ((List.map Ent.sv F.es).length : Nat)) = m + L := by rw [wrap_i64] <;> omega
  obtain ⟨z, hz⟩ : ∃ z : Nat, z = m + L := ⟨_, rfl⟩
  have hall : Fc Try.prog n_ouroborosref07_All [ents F.es, .lst false 9 (((List.map Ent.sv a.slots).drop m).take (z - m))] (sb true) := by
    have h1 := c_ref07_All F.es F.es hfb.1 (by have := hfb.2; omega)
    rw [decide_eq_true rfl] at h1
    have h2 : ((List.map Ent.sv a.slots).drop m).take (z - m) = F.es.map Ent.sv := by
      rw [hFe, ← List.map_drop, ← List.map_take, hz, hL]
      congr 1
      rw [show m + min k (a.slots.length - m) - m = min k (a.slots.length - m) by omega]
      by_cases h : k ≤ a.slots.length - m
      · rw [Nat.min_eq_left h]
      · rw [Nat.min_eq_right (by omega), List.take_of_length_le (by simp), List.take_of_length_le (by simp; omega)]
    rw [h2]; exact h1
  refine Fc.of_body tabOk q_ouroboroslaw19_SweepBounds (by kernel_rfl) ((blwL_cons (blw_ar 0 a) (blwL_cons rfl (blwL_one rfl)))) (rfl) ?_
  conv => whnf
  repeat' (first
    | (refine bltG (by first | omega | (simp only [List.length_map] at *; omega)) ?_; conv => whnf)
    | (refine ndG (by assumption) ?_; conv => whnf)
    | (refine mulG ?_; conv => whnf)
    | (refine And.intro rfl ?_; conv => whnf)
    | (refine dsT (by assumption) ?_; conv => whnf)
    | (refine dsF (by assumption) ?_; conv => whnf)
    | (refine nsT (by assumption) ?_; conv => whnf)
    | (refine nsF (by assumption) ?_; conv => whnf)
    | (refine bsT (by assumption) ?_; conv => whnf)
    | (refine bsF (by assumption) ?_; conv => whnf)
    | (refine dsp ?_ ?_ <;> intro _ <;> conv => whnf)
    | (refine nsp ?_ ?_ <;> intro _ <;> conv => whnf)
    | (refine cnd_true (by assumption) ?_; conv => whnf)
    | (refine cnd_false (by assumption) ?_; conv => whnf)
    | (refine cnd_split ?_ ?_ <;> intro _ <;> conv => whnf)
    | (refine Cd.par tabOk (by kernel_rfl) (by kernel_rfl) ?_; conv => whnf)
    | (refine Fc.use (hw) ?_ ?_; (focus ((repeat' constructor); done)); conv => whnf)
    | (refine CallQ.of (hw) ?_ ?_; (focus ((repeat' constructor); done)); conv => whnf)
    | (refine Fc.use (hfa) ?_ ?_; (focus ((repeat' constructor); done)); conv => whnf)
    | (refine CallQ.of (hfa) ?_ ?_; (focus ((repeat' constructor); done)); conv => whnf)
    | (refine Fc.use (hck) ?_ ?_; (focus ((repeat' constructor); done)); conv => whnf)
    | (refine CallQ.of (hck) ?_ ?_; (focus ((repeat' constructor); done)); conv => whnf)
    | (refine Fc.use (hme) ?_ ?_; (focus ((repeat' constructor); done)); conv => whnf)
    | (refine CallQ.of (hme) ?_ ?_; (focus ((repeat' constructor); done)); conv => whnf)
    | (refine Fc.use (hs) ?_ ?_; (focus ((repeat' constructor); done)); conv => whnf)
    | (refine CallQ.of (hs) ?_ ?_; (focus ((repeat' constructor); done)); conv => whnf)
    | (refine Fc.use (hfc) ?_ ?_; (focus ((repeat' constructor); done)); conv => whnf)
    | (refine CallQ.of (hfc) ?_ ?_; (focus ((repeat' constructor); done)); conv => whnf))
  · exfalso; omega
  · exfalso; omega
  · exfalso
    have h2 : ((a.slots.map Ent.sv).length : Int) < IntKind.wrap .i64 ((m : Int) + ((List.map Ent.sv F.es).length : Nat)) := by assumption
    rw [hw2, List.length_map] at h2
    omega
  · have hw3 : IntKind.wrap .i64 ((m : Int) + ((List.map Ent.sv F.es).length : Nat)) = (z : Nat) := by rw [hw2, hz]; omega
    have hz3 : (IntKind.wrap .i64 ((m : Int) + ((List.map Ent.sv F.es).length : Nat))).toNat = z := by rw [hw3]; rfl
    rw [← hz3] at hall
    refine inb_mk (z := IntKind.wrap .i64 ((m : Int) + ((List.map Ent.sv F.es).length : Nat))) (n := (List.map Ent.sv a.slots).length + 1) (by rw [hw3]; omega) (by rw [hw3, List.length_map]; omega) ?_
    conv => whnf
    refine bltG (by rw [hz3]; omega) ?_
    conv => whnf
    repeat' (first
      | (refine bltG (by first | omega | (simp only [List.length_map] at *; omega)) ?_; conv => whnf)
      | (refine ndG (by assumption) ?_; conv => whnf)
      | (refine mulG ?_; conv => whnf)
      | (refine And.intro rfl ?_; conv => whnf)
      | (refine dsT (by assumption) ?_; conv => whnf)
      | (refine dsF (by assumption) ?_; conv => whnf)
      | (refine nsT (by assumption) ?_; conv => whnf)
      | (refine nsF (by assumption) ?_; conv => whnf)
      | (refine bsT (by assumption) ?_; conv => whnf)
      | (refine bsF (by assumption) ?_; conv => whnf)
      | (refine dsp ?_ ?_ <;> intro _ <;> conv => whnf)
      | (refine nsp ?_ ?_ <;> intro _ <;> conv => whnf)
      | (refine cnd_true (by assumption) ?_; conv => whnf)
      | (refine cnd_false (by assumption) ?_; conv => whnf)
      | (refine cnd_split ?_ ?_ <;> intro _ <;> conv => whnf)
      | (refine Cd.par tabOk (by kernel_rfl) (by kernel_rfl) ?_; conv => whnf)
      | (refine Fc.use (hall) ?_ ?_; (focus ((repeat' constructor); done)); conv => whnf)
      | (refine CallQ.of (hall) ?_ ?_; (focus ((repeat' constructor); done)); conv => whnf)
      | (refine Fc.use (hfc) ?_ ?_; (focus ((repeat' constructor); done)); conv => whnf)
      | (refine CallQ.of (hfc) ?_ ?_; (focus ((repeat' constructor); done)); conv => whnf))
    refine stT ?_
    exact if_pos hfo
end Go.Proofs.Ytmjpidjdbofdjaa

