import Derived.Test.YtmjpidjdbofdjaaVs
import Derived.Test.YtmjpidjdbofdjaaYW
/- The law SweepAll. -/
set_option linter.unusedVariables false
set_option linter.unusedSimpArgs false
set_option maxRecDepth 100000
set_option maxHeartbeats 1600000
namespace Go.Proofs.Ytmjpidjdbofdjaa
open Go Go.Sy
theorem mend_at {a : Ar} (hk : arOk a) {m : Nat} (h : m < a.slots.length) : mend m a = m := by
  unfold mend; rw [if_pos ⟨hk, by omega, by omega⟩]
/-- One step of the one that sends, over what it may say. -/
structure Step (a : Ar) (k m : Nat) (F G : Fra) (d : Nat) : Prop where
  send : Fc Try.prog n_sweep_Send [a.sv, iv m, iv k] (.tup [F.sv, sb true])
  heard : Fc Try.prog n_sweep_Heard [F.sv] (.tup [G.sv, sb true])
  done : Fc Try.prog n_sweep_Done [a.sv, iv m, iv k, G.sv] (iv d)
  fOk : Fc Try.prog n_frame_Check [F.sv] (iv 0)
  gOk : Fc Try.prog n_frame_Check [G.sv] (iv 0)
  es : F.es = (a.slots.drop m).take k
  next : d = if m + k < a.slots.length then m + k else 0
theorem bare_ok (m : Nat) (h : m ≤ 8) : frOk (bare 7 m) ∧ (bare 7 m).typ = 7 := by
  refine ⟨?_, rfl⟩
  unfold frOk
  right; right; right; right; right; right
  refine ⟨rfl, ?_⟩
  unfold fr7
  exact ⟨(by decide +kernel : digOk 0 0 0 0), by simp only [bare]; omega, by simp only [bare]; omega, by simp only [bare]; omega, by simp only [bare]; omega, rfl, by simp [bare], by simp [bare], fun e he => by simp [bare] at he⟩
theorem step_of {a : Ar} (ha : a.bd) (hk : arOk a) {k m : Nat} (hk1 : 1 ≤ k) (hk8 : k ≤ 8) (hm : m < a.slots.length) : ∃ F G d, Step a k m F G d := by
  have hlen : a.slots.length ≤ 8 := by have h1 := hk.2.1; have h2 := hk.2.2.1; omega
  have hfb : (sent a m k).bd := ⟨bd_sub ha.1, by simp only [sent, sel_all, List.length_take, List.length_drop]; omega⟩
  have hso := sent_ok a hk m k (by omega) hk8
  have hbo := bare_ok m (by omega)
  refine ⟨sent a m k, bare 7 m, if m + k < a.slots.length then m + k else 0, c_Send1 a ha hk (by omega) m m k (mend_at hk hm) (by omega), c_Heard1 _ hfb hso, ?_, ?_, ?_, sel_all _ _ _, rfl⟩
  · have h := c_sweep_Done a m k (bare 7 m) ha (bd_b 7 m)
    have e : doneTo a m k (bare 7 m) = ((if m + k < a.slots.length then m + k else 0 : Nat) : Int) := by
      unfold doneTo
      rw [mend_at hk hm, if_pos ⟨hbo.1, rfl, rfl, by omega, by omega⟩]
      unfold mend
      by_cases h : m + k < a.slots.length
      · rw [if_pos ⟨hk, by omega, by omega⟩, if_pos h]; rfl
      · rw [if_neg (fun h' => by omega), if_neg h]; rfl
    rw [e] at h
    exact h
  · have h := c_frame_Check _ hfb
    unfold en at h; rw [if_pos hso.1] at h; exact h
  · have h := c_frame_Check _ (bd_b 7 m)
    unfold en at h; rw [if_pos hbo.1] at h; exact h
theorem all_law (a : Ar) (c n : Int) (hn : 0 ≤ n ∧ n < 256) : Fc Try.prog n_ouroboroslaw19_SweepAll [a.sv, iv c, .v (.int .u8 n)] (sb true) := by
  have hw := c_works
  have hfa := c_law08_Few a
  obtain ⟨k, hk1, hk8, hkn⟩ : ∃ k : Nat, 1 ≤ k ∧ k ≤ 8 ∧ (k : Int) = n % 8 + 1 := ⟨(n % 8 + 1).toNat, by omega, by omega, by omega⟩
  have hkw : SV.v (.int .i64 (IntKind.wrap .i64 ((IntKind.wrap .i64 n).tmod 8 + 1))) = iv k := by
    rw [wrap_i64 (n := n) (by omega) (by omega), Int.tmod_eq_emod_of_nonneg hn.1, ← hkn, wrap_i64 (by omega) (by omega)]; rfl
  have bb : blwL 0 [a.sv, iv c, .v (.int .u8 n)] = true := blwL_cons (blw_ar 0 a) (blwL_cons rfl (blwL_one rfl))
  by_cases few : arFew a
  case neg =>
    refine Fc.of_body tabOk q_ouroboroslaw19_SweepAll (by kernel_rfl) (bb) (rfl) ?_
    conv => whnf
    repeat' (first
      | (refine bltG (by first | omega | (simp only [List.length_map] at *; omega)) ?_; conv => whnf)
      | (refine ndG (by assumption) ?_; conv => whnf)
      | (refine mulG ?_; conv => whnf)
      | (refine And.intro rfl ?_; conv => whnf)
      | (refine dsT (by assumption) ?_; conv => whnf)
      | (refine dsF (by assumption) ?_; conv => whnf)
      | (refine nsT (by assumption) ?_; conv => whnf)
      | (refine nsF (by assumption) ?_; conv => whnf)
      | (refine bsT (by assumption) ?_; conv => whnf)
      | (refine bsF (by assumption) ?_; conv => whnf)
      | (refine dsp ?_ ?_ <;> intro _ <;> conv => whnf)
      | (refine nsp ?_ ?_ <;> intro _ <;> conv => whnf)
      | (refine cnd_true (by assumption) ?_; conv => whnf)
      | (refine cnd_false (by assumption) ?_; conv => whnf)
      | (refine cnd_split ?_ ?_ <;> intro _ <;> conv => whnf)
      | (refine Cd.par tabOk (by kernel_rfl) (by kernel_rfl) ?_; conv => whnf)
      | (refine Fc.use (hw) ?_ ?_; (focus ((repeat' constructor); done)); conv => whnf)
      | (refine CallQ.of (hw) ?_ ?_; (focus ((repeat' constructor); done)); conv => whnf)
      | (refine Fc.use (hfa) ?_ ?_; (focus ((repeat' constructor); done)); conv => whnf)
      | (refine CallQ.of (hfa) ?_ ?_; (focus ((repeat' constructor); done)); conv => whnf))
    all_goals rfl
  have ha : a.bd := few.bd
  have hck := c_arena_Check a ha
  by_cases h : arOk a ∧ 0 < a.slots.length
  case neg =>
    refine Fc.of_body tabOk q_ouroboroslaw19_SweepAll (by kernel_rfl) (bb) (rfl) ?_
    conv => whnf
    repeat' (first
      | (refine bltG (by first | omega | (simp only [List.length_map] at *; omega)) ?_; conv => whnf)
      | (refine ndG (by assumption) ?_; conv => whnf)
      | (refine mulG ?_; conv => whnf)
      | (refine And.intro rfl ?_; conv => whnf)
      | (refine dsT (by assumption) ?_; conv => whnf)
      | (refine dsF (by assumption) ?_; conv => whnf)
      | (refine nsT (by assumption) ?_; conv => whnf)
      | (refine nsF (by assumption) ?_; conv => whnf)
      | (refine bsT (by assumption) ?_; conv => whnf)
      | (refine bsF (by assumption) ?_; conv => whnf)
      | (refine dsp ?_ ?_ <;> intro _ <;> conv => whnf)
      | (refine nsp ?_ ?_ <;> intro _ <;> conv => whnf)
      | (refine cnd_true (by assumption) ?_; conv => whnf)
      | (refine cnd_false (by assumption) ?_; conv => whnf)
      | (refine cnd_split ?_ ?_ <;> intro _ <;> conv => whnf)
      | (refine Cd.par tabOk (by kernel_rfl) (by kernel_rfl) ?_; conv => whnf)
      | (refine Fc.use (hw) ?_ ?_; (focus ((repeat' constructor); done)); conv => whnf)
      | (refine CallQ.of (hw) ?_ ?_; (focus ((repeat' constructor); done)); conv => whnf)
      | (refine Fc.use (hfa) ?_ ?_; (focus ((repeat' constructor); done)); conv => whnf)
      | (refine CallQ.of (hfa) ?_ ?_; (focus ((repeat' constructor); done)); conv => whnf)
      | (refine Fc.use (hck) ?_ ?_; (focus ((repeat' constructor); done)); conv => whnf)
      | (refine CallQ.of (hck) ?_ ?_; (focus ((repeat' constructor); done)); conv => whnf))
    all_goals try simp only [List.length_map] at *
    all_goals first | rfl | (exfalso; grind)
  obtain ⟨hk, h0⟩ := h
  have hlen : a.slots.length ≤ 8 := by have h1 := hk.2.1; have h2 := hk.2.2.1; omega
  obtain ⟨m0, hm0⟩ : ∃ m : Nat, mend c a = m := ⟨(mend c a).toNat, by have := mend_bd c a ha; omega⟩
  have hml : m0 < a.slots.length := by
    have : mend c a < a.slots.length := by unfold mend; split <;> omega
    omega
  have hme := c_sweep_Mend c a ha
  rw [hm0] at hme
  have e0 : (if arOk a then (0 : Int) else 2) = 0 := if_pos hk
  have e1 : ¬ ((a.slots.map Ent.sv).length : Int) = 0 := by simp only [List.length_map]; omega
  refine Fc.of_body tabOk q_ouroboroslaw19_SweepAll (by kernel_rfl) (bb) (rfl) ?_
  conv => whnf
  repeat' (first
    | (refine bltG (by first | omega | (simp only [List.length_map] at *; omega)) ?_; conv => whnf)
    | (refine ndG (by assumption) ?_; conv => whnf)
    | (refine mulG ?_; conv => whnf)
    | (refine And.intro rfl ?_; conv => whnf)
    | (refine dsT (by assumption) ?_; conv => whnf)
    | (refine dsF (by assumption) ?_; conv => whnf)
    | (refine nsT (by assumption) ?_; conv => whnf)
    | (refine nsF (by assumption) ?_; conv => whnf)
    | (refine bsT (by assumption) ?_; conv => whnf)
    | (refine bsF (by assumption) ?_; conv => whnf)
    | (refine dsp ?_ ?_ <;> intro _ <;> conv => whnf)
    | (refine nsp ?_ ?_ <;> intro _ <;> conv => whnf)
    | (refine cnd_true (by assumption) ?_; conv => whnf)
    | (refine cnd_false (by assumption) ?_; conv => whnf)
    | (refine cnd_split ?_ ?_ <;> intro _ <;> conv => whnf)
    | (refine Cd.par tabOk (by kernel_rfl) (by kernel_rfl) ?_; conv => whnf)
    | (refine Fc.use (hw) ?_ ?_; (focus ((repeat' constructor); done)); conv => whnf)
    | (refine CallQ.of (hw) ?_ ?_; (focus ((repeat' constructor); done)); conv => whnf)
    | (refine Fc.use (hfa) ?_ ?_; (focus ((repeat' constructor); done)); conv => whnf)
    | (refine CallQ.of (hfa) ?_ ?_; (focus ((repeat' constructor); done)); conv => whnf)
    | (refine Fc.use (hck) ?_ ?_; (focus ((repeat' constructor); done)); conv => whnf)
    | (refine CallQ.of (hck) ?_ ?_; (focus ((repeat' constructor); done)); conv => whnf)
    | (refine Fc.use (hme) ?_ ?_; (focus ((repeat' constructor); done)); conv => whnf)
    | (refine CallQ.of (hme) ?_ ?_; (focus ((repeat' constructor); done)); conv => whnf))
  refine loopP2 tabOk (fun (i m : Nat) => i ≤ 8 ∧ m < a.slots.length ∧ (m = 0 ∨ i + 1 ≤ m)) (fun i m => ⟨[(11, iv i), (10, iv m), (9, iv k), (7, sb true), (3, .loc 0 0)], []⟩)
    (fun i m => ⟨1, [.c [iv a.cap, ents a.slots, ints a.index]], []⟩) (fun i m => 8 - i) 0 m0 ⟨by omega, hml, by omega⟩ (by (repeat' constructor); exact hkw) (fun _ _ => rfl) ?_
  rintro i m ⟨hi, hm, hd⟩
  obtain ⟨F, G, d, S⟩ := step_of ha hk hk1 hk8 hm
  have s1 := S.send
  have s2 := S.heard
  have s3 := S.done
  by_cases hz : m = 0
  case neg =>
    have c1 : (i : Int) < 8 := by omega
    have c2 : ¬ (m : Int) = 0 := by omega
    conv => whnf
    repeat' (first
      | (refine bltG (by first | omega | (simp only [List.length_map] at *; omega)) ?_; conv => whnf)
      | (refine ndG (by assumption) ?_; conv => whnf)
      | (refine mulG ?_; conv => whnf)
      | (refine And.intro rfl ?_; conv => whnf)
      | (refine dsT (by assumption) ?_; conv => whnf)
      | (refine dsF (by assumption) ?_; conv => whnf)
      | (refine nsT (by assumption) ?_; conv => whnf)
      | (refine nsF (by assumption) ?_; conv => whnf)
      | (refine bsT (by assumption) ?_; conv => whnf)
      | (refine bsF (by assumption) ?_; conv => whnf)
      | (refine dsp ?_ ?_ <;> intro _ <;> conv => whnf)
      | (refine nsp ?_ ?_ <;> intro _ <;> conv => whnf)
      | (refine cnd_true (by assumption) ?_; conv => whnf)
      | (refine cnd_false (by assumption) ?_; conv => whnf)
      | (refine cnd_split ?_ ?_ <;> intro _ <;> conv => whnf)
      | (refine Cd.par tabOk (by kernel_rfl) (by kernel_rfl) ?_; conv => whnf)
      | (refine Fc.use (s1) ?_ ?_; (focus ((repeat' constructor); done)); conv => whnf)
      | (refine CallQ.of (s1) ?_ ?_; (focus ((repeat' constructor); done)); conv => whnf)
      | (refine Fc.use (s2) ?_ ?_; (focus ((repeat' constructor); done)); conv => whnf)
      | (refine CallQ.of (s2) ?_ ?_; (focus ((repeat' constructor); done)); conv => whnf)
      | (refine Fc.use (s3) ?_ ?_; (focus ((repeat' constructor); done)); conv => whnf)
      | (refine CallQ.of (s3) ?_ ?_; (focus ((repeat' constructor); done)); conv => whnf))
    refine ⟨i + 1, d, ⟨by omega, by rw [S.next]; split <;> omega, by rw [S.next]; split <;> omega⟩, by omega, ⟨?_, rfl, trivial, ?_, rfl, (.inr ⟨by simp [blwE, blw_iv, blw, sb] <;> rfl, rfl, by simp [blwB, blwX, blwL, blw_iv, blw_ents, blw_ints, blw] <;> rfl, by simp [blwR, blwL_map (blw_ent _), blw_ent] <;> rfl⟩)⟩⟩
    · (repeat' constructor) <;> (refine ivW ?_ ?_ ?_ <;> omega)
    · repeat' constructor
  subst hz
  conv => whnf
  repeat' (first
    | (refine bltG (by first | omega | (simp only [List.length_map] at *; omega)) ?_; conv => whnf)
    | (refine ndG (by assumption) ?_; conv => whnf)
    | (refine mulG ?_; conv => whnf)
    | (refine And.intro rfl ?_; conv => whnf)
    | (refine dsT (by assumption) ?_; conv => whnf)
    | (refine dsF (by assumption) ?_; conv => whnf)
    | (refine nsT (by assumption) ?_; conv => whnf)
    | (refine nsF (by assumption) ?_; conv => whnf)
    | (refine bsT (by assumption) ?_; conv => whnf)
    | (refine bsF (by assumption) ?_; conv => whnf)
    | (refine dsp ?_ ?_ <;> intro _ <;> conv => whnf)
    | (refine nsp ?_ ?_ <;> intro _ <;> conv => whnf)
    | (refine cnd_true (by assumption) ?_; conv => whnf)
    | (refine cnd_false (by assumption) ?_; conv => whnf)
    | (refine cnd_split ?_ ?_ <;> intro _ <;> conv => whnf)
    | (refine Cd.par tabOk (by kernel_rfl) (by kernel_rfl) ?_; conv => whnf))
  all_goals
    refine Cd.nilRow t_Entry 9 ?_
    conv => whnf
    refine loopP2 tabOk (fun (i : Nat) (q : Q3) => i ≤ 8 ∧ i * k < a.slots.length ∧ q.n = (a.slots.take (i * k)).length ∧ RowV q.A q.n q.c)
      (fun i q => ⟨[(17, iv i), (16, .own 0 q.A q.n q.c), (10, iv ((i * k : Nat) : Int)), (9, iv k), (7, sb true), (3, .loc 0 0)], []⟩)
      (fun i q => ⟨1, [.c [iv a.cap, ents a.slots, ints a.index]], [⟨q.A, q.n, q.c, t_Entry, 9, (a.slots.take (i * k)).map Ent.sv, false⟩]⟩)
      (fun i q => 8 - i) 0 ⟨none, 0, 0⟩ ⟨by omega, by omega, by simp, ⟨Nat.le_refl _, Nat.zero_le _, fun _ => ⟨rfl, rfl⟩, fun _ h => by cases h⟩⟩ (by simp only [Nat.zero_mul, List.take_zero, List.map_nil]; repeat' constructor) (fun _ _ => rfl) ?_
    rintro i ⟨A, m, c⟩ ⟨hi, hm, hq, hv⟩
    simp only at hq hv
    obtain ⟨F, G, d, S⟩ := step_of ha hk hk1 hk8 hm
    have s1 := S.send
    have s2 := S.heard
    have s3 := S.done
    have s4 := S.fOk
    have s5 := S.gOk
    have i8 : (i : Int) < 8 := by
      have : i ≤ i * k := Nat.le_mul_of_pos_right _ (by omega)
      omega
    have hF8 : ¬ (k : Int) < ((List.map Ent.sv F.es).length : Nat) := by rw [List.length_map, S.es, List.length_take]; omega
    conv => whnf
    repeat' (first
      | (refine bltG (by first | omega | (simp only [List.length_map] at *; omega)) ?_; conv => whnf)
      | (refine ndG (by assumption) ?_; conv => whnf)
      | (refine mulG ?_; conv => whnf)
      | (refine And.intro rfl ?_; conv => whnf)
      | (refine dsT (by assumption) ?_; conv => whnf)
      | (refine dsF (by assumption) ?_; conv => whnf)
      | (refine nsT (by assumption) ?_; conv => whnf)
      | (refine nsF (by assumption) ?_; conv => whnf)
      | (refine bsT (by assumption) ?_; conv => whnf)
      | (refine bsF (by assumption) ?_; conv => whnf)
      | (refine dsp ?_ ?_ <;> intro _ <;> conv => whnf)
      | (refine nsp ?_ ?_ <;> intro _ <;> conv => whnf)
      | (refine cnd_true (by assumption) ?_; conv => whnf)
      | (refine cnd_false (by assumption) ?_; conv => whnf)
      | (refine cnd_split ?_ ?_ <;> intro _ <;> conv => whnf)
      | (refine Cd.par tabOk (by kernel_rfl) (by kernel_rfl) ?_; conv => whnf)
      | (refine Fc.use (s1) ?_ ?_; (focus ((repeat' constructor); done)); conv => whnf)
      | (refine CallQ.of (s1) ?_ ?_; (focus ((repeat' constructor); done)); conv => whnf)
      | (refine Fc.use (s2) ?_ ?_; (focus ((repeat' constructor); done)); conv => whnf)
      | (refine CallQ.of (s2) ?_ ?_; (focus ((repeat' constructor); done)); conv => whnf)
      | (refine Fc.use (s3) ?_ ?_; (focus ((repeat' constructor); done)); conv => whnf)
      | (refine CallQ.of (s3) ?_ ?_; (focus ((repeat' constructor); done)); conv => whnf)
      | (refine Fc.use (s4) ?_ ?_; (focus ((repeat' constructor); done)); conv => whnf)
      | (refine CallQ.of (s4) ?_ ?_; (focus ((repeat' constructor); done)); conv => whnf)
      | (refine Fc.use (s5) ?_ ?_; (focus ((repeat' constructor); done)); conv => whnf)
      | (refine CallQ.of (s5) ?_ ?_; (focus ((repeat' constructor); done)); conv => whnf))
    have hcat : (a.slots.take (i * k)).map Ent.sv ++ F.es.map Ent.sv = (a.slots.take ((i + 1) * k)).map Ent.sv := by
      rw [← List.map_append, S.es, Nat.succ_mul, List.take_add]
    have hFl : (F.es.map Ent.sv).length ≤ 8 := by rw [List.length_map, S.es, List.length_take]; omega
    have hm8 : m ≤ 8 := by rw [hq, List.length_take]; omega
    refine And.intro ⟨rfl, rfl, rfl, rfl, rfl, rfl, ?_, ?_⟩ fun A' c' hv' => ?_
    · have : 19 ≤ maxLen := by decide
      show m + (F.es.map Ent.sv).length ≤ maxLen
      omega
    · show (m + (F.es.map Ent.sv).length) * 120 ≤ 140737488355328
      omega
    rw [lf_eq]
    conv => whnf
    repeat' (first
      | (refine bltG (by first | omega | (simp only [List.length_map] at *; omega)) ?_; conv => whnf)
      | (refine ndG (by assumption) ?_; conv => whnf)
      | (refine mulG ?_; conv => whnf)
      | (refine And.intro rfl ?_; conv => whnf)
      | (refine dsT (by assumption) ?_; conv => whnf)
      | (refine dsF (by assumption) ?_; conv => whnf)
      | (refine nsT (by assumption) ?_; conv => whnf)
      | (refine nsF (by assumption) ?_; conv => whnf)
      | (refine bsT (by assumption) ?_; conv => whnf)
      | (refine bsF (by assumption) ?_; conv => whnf)
      | (refine dsp ?_ ?_ <;> intro _ <;> conv => whnf)
      | (refine nsp ?_ ?_ <;> intro _ <;> conv => whnf)
      | (refine cnd_true (by assumption) ?_; conv => whnf)
      | (refine cnd_false (by assumption) ?_; conv => whnf)
      | (refine cnd_split ?_ ?_ <;> intro _ <;> conv => whnf)
      | (refine Cd.par tabOk (by kernel_rfl) (by kernel_rfl) ?_; conv => whnf)
      | (refine Fc.use (s3) ?_ ?_; (focus ((repeat' constructor); done)); conv => whnf)
      | (refine CallQ.of (s3) ?_ ?_; (focus ((repeat' constructor); done)); conv => whnf))
    · -- the end
      have hd0 : d = 0 := by have h : (d : Int) = 0 := by assumption
                             omega
      have hge : ¬ i * k + k < a.slots.length := fun h => by have := S.next; rw [if_pos h] at this; omega
      have hfull : a.slots.take ((i + 1) * k) = a.slots := List.take_of_length_le (by rw [Nat.succ_mul]; omega)
      rw [hfull] at hcat
      have hall := c_ref07_All a.slots a.slots ha.1 (by omega)
      rw [decide_eq_true rfl] at hall
      refine Fc.useP hall ⟨⟨rfl, ⟨⟨rfl, rfl, rfl⟩, rfl, hcat⟩⟩, by (repeat' constructor)⟩ ?_
      conv => whnf
      repeat' (first
        | (refine bltG (by first | omega | (simp only [List.length_map] at *; omega)) ?_; conv => whnf)
        | (refine ndG (by assumption) ?_; conv => whnf)
        | (refine mulG ?_; conv => whnf)
        | (refine And.intro rfl ?_; conv => whnf)
        | (refine dsT (by assumption) ?_; conv => whnf)
        | (refine dsF (by assumption) ?_; conv => whnf)
        | (refine nsT (by assumption) ?_; conv => whnf)
        | (refine nsF (by assumption) ?_; conv => whnf)
        | (refine bsT (by assumption) ?_; conv => whnf)
        | (refine bsF (by assumption) ?_; conv => whnf)
        | (refine dsp ?_ ?_ <;> intro _ <;> conv => whnf)
        | (refine nsp ?_ ?_ <;> intro _ <;> conv => whnf)
        | (refine cnd_true (by assumption) ?_; conv => whnf)
        | (refine cnd_false (by assumption) ?_; conv => whnf)
        | (refine cnd_split ?_ ?_ <;> intro _ <;> conv => whnf)
        | (refine Cd.par tabOk (by kernel_rfl) (by kernel_rfl) ?_; conv => whnf))
      have b : (i + 1) * k ≤ 9 * 8 := Nat.mul_le_mul (by omega) hk8
      have e1 : IntKind.wrap .i64 ((i : Int) + 1) = (i : Int) + 1 := by rw [wrap_i64] <;> omega
      have e2 : ((i : Int) + 1) * k = (((i + 1) * k : Nat) : Int) := by rw [Int.natCast_mul]; rfl
      have e3 : (i + 1) * k = i * k + k := Nat.succ_mul i k
      refine stT ?_
      rw [e1, e2, wrap_i64 (by omega) (by omega), List.length_map]
      omega
    · have hd0 : ¬ (d : Int) = 0 := by assumption
      have hlt : i * k + k < a.slots.length := by
        by_cases h : i * k + k < a.slots.length
        · exact h
        · have := S.next; rw [if_neg h] at this; omega
      have hdk : d = (i + 1) * k := by rw [S.next, if_pos hlt, Nat.succ_mul]
      subst hdk
      refine ⟨i + 1, ⟨A', m + (F.es.map Ent.sv).length, c'⟩, ⟨by omega, by rw [Nat.succ_mul]; omega, ?_, hv'⟩, by omega, ⟨?_, rfl, ⟨?_, trivial⟩, ?_, rfl, (.inr ⟨by simp [blwE, blw_iv, blw, sb] <;> rfl, rfl, by simp [blwB, blwX, blwL, blw_iv, blw_ents, blw_ints, blw] <;> rfl, by (simp only [blwR]; rw [blwL_map (blw_ent 1)])⟩)⟩⟩
      · have h5 := congrArg List.length hcat
        simp only [List.length_append, List.length_map] at h5
        show m + (F.es.map Ent.sv).length = _
        rw [List.length_map, ← h5, hq]
      · (repeat' constructor) <;> (refine ivW ?_ ?_ ?_ <;> omega)
      · exact rowEq hcat.symm
      · repeat' constructor
end Go.Proofs.Ytmjpidjdbofdjaa

