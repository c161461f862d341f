import Derived.Test.YtmjpidjdbofdjaaVt
import Derived.Test.YtmjpidjdbofdjaaWb
/- The law SweepNews. -/
set_option linter.unusedVariables false
set_option linter.unusedSimpArgs false
set_option maxRecDepth 100000
set_option maxHeartbeats 3200000
namespace Go.Proofs.Ytmjpidjdbofdjaa
open Go Go.Sy
theorem mrg_mergeA : ∀ (l : List Ent) (a : Ar), (mrg a l).1 = mergeA a l := by
  have : ∀ (l : List Ent) (s : Ar × Nat × Nat), (l.foldl mstep s).1 = mergeA s.1 l := by
    intro l
    induction l with
    | nil => exact fun s => rfl
    | cons e l ih => exact fun s => ih (mstep s e)
  exact fun l a => this l (a, 0, 0)
def toT (B : Ar) (m : Nat) : Nat := if m = 0 then B.slots.length else m
def tls (a B : Ar) (k m : Nat) : List Ent := a.slots.take k ++ (B.slots.take (toT B m)).drop k
theorem tls_first (a B : Ar) {k d0 : Nat} {x0 : Ent} {r0 : List Ent} (hk1 : 1 ≤ k) (hx0 : a.slots.take k = x0 :: r0) (hdv : d0 = if k < B.slots.length then k else 0) : tls a B k d0 = x0 :: r0 := by
  unfold tls
  have hkk : toT B d0 ≤ k := by
    unfold toT
    by_cases h : k < B.slots.length
    · rw [if_pos h] at hdv; rw [if_neg (by omega)]; omega
    · rw [if_neg h] at hdv; rw [if_pos hdv]; omega
  rw [hx0, List.drop_of_length_le (by rw [List.length_take]; omega), List.append_nil]
theorem tls_step (a B : Ar) {k m d : Nat} {es : List Ent} (hz : m ≠ 0) (hkm : k ≤ m) (hk1 : 1 ≤ k) (hm : m < B.slots.length) (he : es = (B.slots.drop m).take k) (hd : d = if m + k < B.slots.length then m + k else 0) : tls a B k d = tls a B k m ++ es := by
  unfold tls
  rw [List.append_assoc]
  congr 1
  have e1 : toT B m = m := by unfold toT; rw [if_neg hz]
  have e2 : B.slots.take (toT B d) = B.slots.take m ++ es := by
    rw [he, hd]
    unfold toT
    by_cases h : m + k < B.slots.length
    · rw [if_pos h, if_neg (by omega), List.take_add]
    · rw [if_neg h, if_pos rfl, List.take_of_length_le (Nat.le_refl _), List.take_of_length_le (l := B.slots.drop m) (by simp; omega), List.take_append_drop]
  rw [e1, e2, List.drop_append_of_le_length (by rw [List.length_take]; omega)]
theorem tls_len (a B : Ar) (k m : Nat) (h : B.slots.length ≤ 8) : (tls a B k m).length ≤ k + 8 := by
  unfold tls
  rw [List.length_append, List.length_drop, List.length_take, List.length_take]; omega
theorem tls_len0 (a B : Ar) (k : Nat) : (tls a B k 0).length = (a.slots.take k).length + (B.slots.length - k) := by
  unfold tls toT
  rw [if_pos rfl, List.take_of_length_le (Nat.le_refl _), List.length_append, List.length_drop]
theorem tls_end (a B : Ar) (k : Nat) : tls a B k 0 = a.slots.take k ++ B.slots.drop k := by
  unfold tls toT
  rw [if_pos rfl, List.take_of_length_le (Nat.le_refl _)]
theorem tls_get (a B : Ar) {k i : Nat} {y : Ent} (hi : k ≤ i) (hy : B.slots[i]? = some y) : (tls a B k 0)[(a.slots.take k).length + i - k]? = some y := by
  rw [tls_end, List.getElem?_append_right (by omega), List.getElem?_drop]
  rw [show k + ((a.slots.take k).length + i - k - (a.slots.take k).length) = i by omega]
  exact hy
theorem news_law (a : Ar) (l : List Ent) (n : Int) (hn : 0 ≤ n ∧ n < 256) : Fc Try.prog n_ouroboroslaw19_SweepNews [a.sv, ents l, .v (.int .u8 n)] (sb true) := by
  have hw := c_works
  have hfa := c_law08_Few a
  have hfe := c_law08_Entries l 8 (by omega)
  obtain ⟨k, hk1, hk8, hkn⟩ : ∃ k : Nat, 1 ≤ k ∧ k ≤ 4 ∧ (k : Int) = n % 4 + 1 := ⟨(n % 4 + 1).toNat, by omega, by omega, by omega⟩
  have hkw : SV.v (.int .i64 (IntKind.wrap .i64 ((IntKind.wrap .i64 n).tmod 4 + 1))) = iv k := by
    rw [wrap_i64 (n := n) (by omega) (by omega), Int.tmod_eq_emod_of_nonneg hn.1, ← hkn, wrap_i64 (by omega) (by omega)]; rfl
  have bb : blwL 0 [a.sv, ents l, .v (.int .u8 n)] = true := blwL_cons (blw_ar 0 a) (blwL_cons (blw_ents 0 l) (blwL_one rfl))
  by_cases few : arFew a ∧ ((l.length : Int) ≤ 8 ∧ ∀ e ∈ l, entFew e)
  case neg =>
    refine Fc.of_body tabOk q_ouroboroslaw19_SweepNews (by kernel_rfl) (bb) (rfl) ?_
    conv => whnf
    repeat' (first
      | (refine bltG (by first | omega | (simp only [List.length_map] at *; omega)) ?_; conv => whnf)
      | (refine ndG (by assumption) ?_; conv => whnf)
      | (refine mulG ?_; conv => whnf)
      | (refine And.intro rfl ?_; conv => whnf)
      | (refine dsT (by assumption) ?_; conv => whnf)
      | (refine dsF (by assumption) ?_; conv => whnf)
      | (refine nsT (by assumption) ?_; conv => whnf)
      | (refine nsF (by assumption) ?_; conv => whnf)
      | (refine bsT (by assumption) ?_; conv => whnf)
      | (refine bsF (by assumption) ?_; conv => whnf)
      | (refine dsp ?_ ?_ <;> intro _ <;> conv => whnf)
      | (refine nsp ?_ ?_ <;> intro _ <;> conv => whnf)
      | (refine cnd_true (by assumption) ?_; conv => whnf)
      | (refine cnd_false (by assumption) ?_; conv => whnf)
      | (refine cnd_split ?_ ?_ <;> intro _ <;> conv => whnf)
      | (refine Cd.par tabOk (by kernel_rfl) (by kernel_rfl) ?_; conv => whnf)
      | (refine Fc.use (hw) ?_ ?_; (focus ((repeat' constructor); done)); conv => whnf)
      | (refine CallQ.of (hw) ?_ ?_; (focus ((repeat' constructor); done)); conv => whnf)
      | (refine Fc.use (hfa) ?_ ?_; (focus ((repeat' constructor); done)); conv => whnf)
      | (refine CallQ.of (hfa) ?_ ?_; (focus ((repeat' constructor); done)); conv => whnf)
      | (refine Fc.use (hfe) ?_ ?_; (focus ((repeat' constructor); done)); conv => whnf)
      | (refine CallQ.of (hfe) ?_ ?_; (focus ((repeat' constructor); done)); conv => whnf))
    all_goals first | rfl | (exfalso; grind)
  obtain ⟨f1, f2⟩ := few
  have ha : a.bd := f1.bd
  have hle : ∀ e ∈ l, e.bd := fun e he => few_bd (f2.2 e he).1
  have hck := c_arena_Check a ha
  by_cases h : arOk a ∧ 0 < a.slots.length
  case neg =>
    refine Fc.of_body tabOk q_ouroboroslaw19_SweepNews (by kernel_rfl) (bb) (rfl) ?_
    conv => whnf
    repeat' (first
      | (refine bltG (by first | omega | (simp only [List.length_map] at *; omega)) ?_; conv => whnf)
      | (refine ndG (by assumption) ?_; conv => whnf)
      | (refine mulG ?_; conv => whnf)
      | (refine And.intro rfl ?_; conv => whnf)
      | (refine dsT (by assumption) ?_; conv => whnf)
      | (refine dsF (by assumption) ?_; conv => whnf)
      | (refine nsT (by assumption) ?_; conv => whnf)
      | (refine nsF (by assumption) ?_; conv => whnf)
      | (refine bsT (by assumption) ?_; conv => whnf)
      | (refine bsF (by assumption) ?_; conv => whnf)
      | (refine dsp ?_ ?_ <;> intro _ <;> conv => whnf)
      | (refine nsp ?_ ?_ <;> intro _ <;> conv => whnf)
      | (refine cnd_true (by assumption) ?_; conv => whnf)
      | (refine cnd_false (by assumption) ?_; conv => whnf)
      | (refine cnd_split ?_ ?_ <;> intro _ <;> conv => whnf)
      | (refine Cd.par tabOk (by kernel_rfl) (by kernel_rfl) ?_; conv => whnf)
      | (refine Fc.use (hw) ?_ ?_; (focus ((repeat' constructor); done)); conv => whnf)
      | (refine CallQ.of (hw) ?_ ?_; (focus ((repeat' constructor); done)); conv => whnf)
      | (refine Fc.use (hfa) ?_ ?_; (focus ((repeat' constructor); done)); conv => whnf)
      | (refine CallQ.of (hfa) ?_ ?_; (focus ((repeat' constructor); done)); conv => whnf)
      | (refine Fc.use (hfe) ?_ ?_; (focus ((repeat' constructor); done)); conv => whnf)
      | (refine CallQ.of (hfe) ?_ ?_; (focus ((repeat' constructor); done)); conv => whnf)
      | (refine Fc.use (hck) ?_ ?_; (focus ((repeat' constructor); done)); conv => whnf)
      | (refine CallQ.of (hck) ?_ ?_; (focus ((repeat' constructor); done)); conv => whnf))
    all_goals try simp only [List.length_map] at *
    all_goals first | rfl | (exfalso; grind)
  obtain ⟨hk, h0⟩ := h
  have hlen : a.slots.length ≤ 8 := by have h1 := hk.2.1; have h2 := hk.2.2.1; omega
  have hme := c_arena_Merge a l ha hle (by omega)
  have hB : arOk (mrg a l).1 := by rw [mrg_mergeA]; exact mergeA_ok l a hk
  have hBb : (mrg a l).1.bd := mrg_bd ha l
  have hBl : a.slots.length ≤ (mrg a l).1.slots.length := by rw [mrg_mergeA]; exact mergeA_len l a
  generalize (mrg a l).2.1 = u1 at *
  generalize (mrg a l).2.2 = u2 at *
  generalize (mrg a l).1 = B at *
  have hB8 : B.slots.length ≤ 8 := by have h1 := hB.2.1; have h2 := hB.2.2.1; omega
  obtain ⟨x0, r0, hx0⟩ : ∃ x r, a.slots.take k = x :: r := by
    cases hs : a.slots with
    | nil => rw [hs] at h0; simp at h0
    | cons x r => exact ⟨x, r.take (k - 1), by rw [show k = (k - 1) + 1 by omega]; simp⟩
  have hsd := c_Send1 a ha hk h0 0 0 k (mend_at hk h0) (by omega)
  have hhd := c_Heard1 (sent a 0 k) ⟨bd_sub ha.1, by simp only [sent, sel_all, List.length_take, List.length_drop]; omega⟩ (sent_ok a hk 0 k (by omega) (by omega))
  rw [show sent a 0 k = ⟨6, 0, 0, 0, 0, 0, 0, x0 :: r0⟩ by unfold sent; rw [sel_all, List.drop_zero, hx0]; rfl] at hsd hhd
  have hdn := c_sweep_Done B 0 k (bare 7 0) hBb (bd_b 7 0)
  obtain ⟨d0, hd0, hdv⟩ : ∃ d0 : Nat, doneTo B 0 k (bare 7 0) = d0 ∧ (d0 = if k < B.slots.length then k else 0) := by
    refine ⟨if k < B.slots.length then k else 0, ?_, rfl⟩
    unfold doneTo
    have h00 : mend 0 B = 0 := by have := mend_at (m := 0) hB (by omega); simpa using this
    rw [h00, if_pos ⟨(bare_ok 0 (by omega)).1, rfl, rfl, by omega, by omega⟩]
    unfold mend
    by_cases h : k < B.slots.length
    · rw [if_pos ⟨hB, by omega, by omega⟩, if_pos h]; simp
    · rw [if_neg (fun h' => by omega), if_neg h]; rfl
  rw [hd0] at hdn
  rw [← hkw] at hsd hdn
  have e0 : (if arOk a then (0 : Int) else 2) = 0 := if_pos hk
  have e1 : ¬ ((a.slots.map Ent.sv).length : Int) = 0 := by simp only [List.length_map]; omega
  have hmx : 4096 ≤ maxLen := by decide
  have hF0 : (x0 :: r0).length ≤ 4 := by rw [← hx0, List.length_take]; omega
  have hFm : ((x0 :: r0).map Ent.sv).length = (x0 :: r0).length := List.length_map ..
  have hBm : (B.slots.map Ent.sv).length = B.slots.length := List.length_map ..
  have htl0 := tls_first a B hk1 hx0 hdv
  have hstep := @tls_step a B k
  have hbd := fun m => tls_len a B k m hB8
  have hend := tls_end a B k
  have hget := fun {i : Nat} {y : Ent} (h1 : k ≤ i) (h2 : B.slots[i]? = some y) => tls_get a B h1 h2
  have hT0l := tls_len0 a B k
  generalize tls a B k = T at *
  have hp0 : d0 = 0 ∨ (d0 < B.slots.length ∧ d0 = (0 + 1) * k) := by rw [hdv]; split <;> omega
  have hpT : ((x0 :: r0).map Ent.sv).length = (T d0).length := by rw [htl0]; exact hFm
  refine Fc.of_body tabOk q_ouroboroslaw19_SweepNews (by kernel_rfl) (bb) (rfl) ?_
  conv => whnf
  repeat' (first
    | (refine bltG (by first | omega | (simp only [List.length_map] at *; omega)) ?_; conv => whnf)
    | (refine ndG (by assumption) ?_; conv => whnf)
    | (refine mulG ?_; conv => whnf)
    | (refine And.intro rfl ?_; conv => whnf)
    | (refine dsT (by assumption) ?_; conv => whnf)
    | (refine dsF (by assumption) ?_; conv => whnf)
    | (refine nsT (by assumption) ?_; conv => whnf)
    | (refine nsF (by assumption) ?_; conv => whnf)
    | (refine bsT (by assumption) ?_; conv => whnf)
    | (refine bsF (by assumption) ?_; conv => whnf)
    | (refine dsp ?_ ?_ <;> intro _ <;> conv => whnf)
    | (refine nsp ?_ ?_ <;> intro _ <;> conv => whnf)
    | (refine cnd_true (by assumption) ?_; conv => whnf)
    | (refine cnd_false (by assumption) ?_; conv => whnf)
    | (refine cnd_split ?_ ?_ <;> intro _ <;> conv => whnf)
    | (refine Cd.par tabOk (by kernel_rfl) (by kernel_rfl) ?_; conv => whnf)
    | (refine Fc.use (hw) ?_ ?_; (focus ((repeat' constructor); done)); conv => whnf)
    | (refine CallQ.of (hw) ?_ ?_; (focus ((repeat' constructor); done)); conv => whnf)
    | (refine Fc.use (hfa) ?_ ?_; (focus ((repeat' constructor); done)); conv => whnf)
    | (refine CallQ.of (hfa) ?_ ?_; (focus ((repeat' constructor); done)); conv => whnf)
    | (refine Fc.use (hfe) ?_ ?_; (focus ((repeat' constructor); done)); conv => whnf)
    | (refine CallQ.of (hfe) ?_ ?_; (focus ((repeat' constructor); done)); conv => whnf)
    | (refine Fc.use (hck) ?_ ?_; (focus ((repeat' constructor); done)); conv => whnf)
    | (refine CallQ.of (hck) ?_ ?_; (focus ((repeat' constructor); done)); conv => whnf)
    | (refine Fc.use (hsd) ?_ ?_; (focus ((repeat' constructor); done)); conv => whnf)
    | (refine CallQ.of (hsd) ?_ ?_; (focus ((repeat' constructor); done)); conv => whnf)
    | (refine Fc.use (hhd) ?_ ?_; (focus ((repeat' constructor); done)); conv => whnf)
    | (refine CallQ.of (hhd) ?_ ?_; (focus ((repeat' constructor); done)); conv => whnf)
    | (refine Fc.use (hme) ?_ ?_; (focus ((repeat' constructor); done)); conv => whnf)
    | (refine CallQ.of (hme) ?_ ?_; (focus ((repeat' constructor); done)); conv => whnf)
    | (refine Fc.use (hdn) ?_ ?_; (focus ((repeat' constructor); done)); conv => whnf)
    | (refine CallQ.of (hdn) ?_ ?_; (focus ((repeat' constructor); done)); conv => whnf))
  refine And.intro ⟨?_, ?_⟩ fun A' c' hv => ?_
  · show ((x0 :: r0).map Ent.sv).length ≤ maxLen
    omega
  · show ((x0 :: r0).map Ent.sv).length * 120 ≤ 140737488355328
    omega
  conv => whnf
  refine loopP2 tabOk (fun (i : Nat) (q : Nat × Q3) => i ≤ 8 ∧ (q.1 = 0 ∨ (q.1 < B.slots.length ∧ q.1 = (i + 1) * k)) ∧ q.2.n = (T q.1).length ∧ RowV q.2.A q.2.n q.2.c)
    (fun i q => ⟨[(19, iv i), (18, .own 0 q.2.A q.2.n q.2.c), (17, iv q.1), (14, .loc 3 0), (10, .loc 1 0), (9, iv k), (7, sb true), (3, .loc 0 0)], []⟩)
    (fun i q => ⟨4, [.c [iv a.cap, ents a.slots, ints a.index], .c (Fra.cs ⟨6, 0, 0, 0, 0, 0, 0, x0 :: r0⟩), .c (Fra.cs (bare 7 0)), .c [iv B.cap, ents B.slots, ints B.index]], [⟨q.2.A, q.2.n, q.2.c, t_Entry, 9, (T q.1).map Ent.sv, false⟩]⟩)
    (fun i q => 8 - i) 0 (d0, ⟨A', ((x0 :: r0).map Ent.sv).length, c'⟩) ⟨by omega, hp0, hpT, hv⟩
    ⟨by (repeat' constructor); exact hkw, rfl, ⟨rowEq (by rw [htl0]), trivial⟩, by repeat' constructor, rfl, .inl rfl⟩ (fun _ _ => rfl) ?_
  rintro i ⟨m, A, q, c⟩ ⟨hi, hm, hq, hv⟩
  simp only at hm hq hv
  by_cases hz : m = 0
  case neg =>
    obtain ⟨hm1, hm2⟩ := hm.resolve_left hz
    obtain ⟨F, G, d, S⟩ := step_of hBb hB hk1 (by omega) hm1
    have s1 := S.send
    have s2 := S.heard
    have s3 := S.done
    have hik : i + 1 ≤ (i + 1) * k := Nat.le_mul_of_pos_right _ (by omega)
    have c1 : (i : Int) < 8 := by omega
    have c2 : ¬ (m : Int) = 0 := by omega
    have hFl : (F.es.map Ent.sv).length ≤ 4 := by rw [List.length_map, S.es, List.length_take]; omega
    have hq12 : q ≤ 12 := by have := hbd m; omega
    have hnx : T d = T m ++ F.es := hstep hz (by rw [hm2]; exact Nat.le_mul_of_pos_left k (by omega)) hk1 hm1 S.es S.next
    conv => whnf
    repeat' (first
      | (refine bltG (by first | omega | (simp only [List.length_map] at *; omega)) ?_; conv => whnf)
      | (refine ndG (by assumption) ?_; conv => whnf)
      | (refine mulG ?_; conv => whnf)
      | (refine And.intro rfl ?_; conv => whnf)
      | (refine dsT (by assumption) ?_; conv => whnf)
      | (refine dsF (by assumption) ?_; conv => whnf)
      | (refine nsT (by assumption) ?_; conv => whnf)
      | (refine nsF (by assumption) ?_; conv => whnf)
      | (refine bsT (by assumption) ?_; conv => whnf)
      | (refine bsF (by assumption) ?_; conv => whnf)
      | (refine dsp ?_ ?_ <;> intro _ <;> conv => whnf)
      | (refine nsp ?_ ?_ <;> intro _ <;> conv => whnf)
      | (refine cnd_true (by assumption) ?_; conv => whnf)
      | (refine cnd_false (by assumption) ?_; conv => whnf)
      | (refine cnd_split ?_ ?_ <;> intro _ <;> conv => whnf)
      | (refine Cd.par tabOk (by kernel_rfl) (by kernel_rfl) ?_; conv => whnf)
      | (refine Fc.use (s1) ?_ ?_; (focus ((repeat' constructor); done)); conv => whnf)
      | (refine CallQ.of (s1) ?_ ?_; (focus ((repeat' constructor); done)); conv => whnf)
      | (refine Fc.use (s2) ?_ ?_; (focus ((repeat' constructor); done)); conv => whnf)
      | (refine CallQ.of (s2) ?_ ?_; (focus ((repeat' constructor); done)); conv => whnf))
    refine And.intro ⟨rfl, rfl, rfl, rfl, rfl, rfl, ?_, ?_⟩ fun A2 c2 hv2 => ?_
    · show q + (F.es.map Ent.sv).length ≤ maxLen
      omega
    · show (q + (F.es.map Ent.sv).length) * 120 ≤ 140737488355328
      omega
    rw [lf_eq]
    conv => whnf
    repeat' (first
      | (refine bltG (by first | omega | (simp only [List.length_map] at *; omega)) ?_; conv => whnf)
      | (refine ndG (by assumption) ?_; conv => whnf)
      | (refine mulG ?_; conv => whnf)
      | (refine And.intro rfl ?_; conv => whnf)
      | (refine dsT (by assumption) ?_; conv => whnf)
      | (refine dsF (by assumption) ?_; conv => whnf)
      | (refine nsT (by assumption) ?_; conv => whnf)
      | (refine nsF (by assumption) ?_; conv => whnf)
      | (refine bsT (by assumption) ?_; conv => whnf)
      | (refine bsF (by assumption) ?_; conv => whnf)
      | (refine dsp ?_ ?_ <;> intro _ <;> conv => whnf)
      | (refine nsp ?_ ?_ <;> intro _ <;> conv => whnf)
      | (refine cnd_true (by assumption) ?_; conv => whnf)
      | (refine cnd_false (by assumption) ?_; conv => whnf)
      | (refine cnd_split ?_ ?_ <;> intro _ <;> conv => whnf)
      | (refine Cd.par tabOk (by kernel_rfl) (by kernel_rfl) ?_; conv => whnf)
      | (refine Fc.use (s3) ?_ ?_; (focus ((repeat' constructor); done)); conv => whnf)
      | (refine CallQ.of (s3) ?_ ?_; (focus ((repeat' constructor); done)); conv => whnf))
    have hnext : d = 0 ∨ (d < B.slots.length ∧ d = (i + 1 + 1) * k) := by
      rw [Nat.succ_mul, ← hm2]
      have := S.next
      by_cases h : m + k < B.slots.length
      · rw [if_pos h] at this; exact .inr ⟨by omega, this⟩
      · rw [if_neg h] at this; exact .inl this
    have hlen2 : q + (F.es.map Ent.sv).length = (T d).length := by rw [hnx, List.length_append, List.length_map, hq]
    refine ⟨i + 1, (d, ⟨A2, q + (F.es.map Ent.sv).length, c2⟩), ⟨by omega, hnext, hlen2, hv2⟩, by omega, ⟨?_, rfl, ⟨?_, trivial⟩, ?_, rfl, (.inr ⟨by simp [blwE, blw_iv, blw, sb] <;> rfl, rfl, by simp [blwB, blwX, blwL, blw_iv, blw_ents, blw_ints, blw, Fra.cs, bare] <;> rfl, by simp [blwR, blwL_map (blw_ent _), blw_ent] <;> rfl⟩)⟩⟩
    · (repeat' constructor) <;> (refine ivW ?_ ?_ ?_ <;> omega)
    · exact rowEq (by rw [hnx, List.map_append])
    · repeat' constructor
  subst hz
  have hwB : IntKind.wrap .i64 (((B.slots.map Ent.sv).length : Int) - k) = (B.slots.length : Int) - k := by rw [List.length_map, wrap_i64] <;> omega
  have hmx2 : min2 .max .i64 0 (IntKind.wrap .i64 (((B.slots.map Ent.sv).length : Int) - k)) = ((B.slots.length - k : Nat) : Int) := by
    rw [hwB]; unfold min2; simp only; split <;> omega
  have hq2 : (q : Int) = IntKind.wrap .i64 ((((x0 :: r0).map Ent.sv).length : Int) + min2 .max .i64 0 (IntKind.wrap .i64 (((B.slots.map Ent.sv).length : Int) - k))) := by
    rw [hmx2, List.length_map, wrap_i64 (by omega) (by omega), hq, hT0l, hx0]; omega
  have hq0 : q ≠ 0 := by rw [hq, hT0l, hx0]; simp only [List.length_cons]; omega
  obtain ⟨g, rfl⟩ := rowV_some hv hq0
  conv => whnf
  repeat' (first
    | (refine bltG (by first | omega | (simp only [List.length_map] at *; omega)) ?_; conv => whnf)
    | (refine ndG (by assumption) ?_; conv => whnf)
    | (refine mulG ?_; conv => whnf)
    | (refine And.intro rfl ?_; conv => whnf)
    | (refine dsT (by assumption) ?_; conv => whnf)
    | (refine dsF (by assumption) ?_; conv => whnf)
    | (refine nsT (by assumption) ?_; conv => whnf)
    | (refine nsF (by assumption) ?_; conv => whnf)
    | (refine bsT (by assumption) ?_; conv => whnf)
    | (refine bsF (by assumption) ?_; conv => whnf)
    | (refine dsp ?_ ?_ <;> intro _ <;> conv => whnf)
    | (refine nsp ?_ ?_ <;> intro _ <;> conv => whnf)
    | (refine cnd_true (by assumption) ?_; conv => whnf)
    | (refine cnd_false (by assumption) ?_; conv => whnf)
    | (refine cnd_split ?_ ?_ <;> intro _ <;> conv => whnf)
    | (refine Cd.par tabOk (by kernel_rfl) (by kernel_rfl) ?_; conv => whnf))
  all_goals
    refine loopP tabOk (fun j : Nat => k ≤ j ∧ (j ≤ B.slots.length ∨ j = k))
      (fun j => ⟨[(24, iv j), (18, .own 0 (some ⟨g, 0, none⟩) q c), (14, .loc 3 0), (10, .loc 1 0), (9, iv k), (7, sb true)], []⟩)
      (fun j => ⟨4, [.c [iv a.cap, ents a.slots, ints a.index], .c (Fra.cs ⟨6, 0, 0, 0, 0, 0, 0, x0 :: r0⟩), .c (Fra.cs (bare 7 0)), .c [iv B.cap, ents B.slots, ints B.index]], [⟨some ⟨g, 0, none⟩, q, c, t_Entry, 9, (T 0).map Ent.sv, false⟩]⟩)
      (fun j => B.slots.length - j) k ⟨Nat.le_refl _, .inr rfl⟩ (by repeat' constructor) (fun _ => rfl) ?_
    rintro j ⟨hj1, hj2⟩
    by_cases hlt : j < B.slots.length
    · obtain ⟨y, hy⟩ : ∃ y, B.slots[j]? = some y := ⟨_, List.getElem?_eq_getElem hlt⟩
      have hyT := hget hj1 hy
      rw [hx0] at hyT
      have hW : IntKind.wrap .i64 (IntKind.wrap .i64 ((((x0 :: r0).map Ent.sv).length : Int) + j) - k) = (((x0 :: r0).length + j - k : Nat) : Int) := by
        rw [List.length_map, wrap_i64 (n := _ + _) (by omega) (by omega), wrap_i64 (by omega) (by omega)]; omega
      have hW0 : 0 ≤ IntKind.wrap .i64 (IntKind.wrap .i64 ((((x0 :: r0).map Ent.sv).length : Int) + j) - k) := by rw [hW]; omega
      have hW1 : IntKind.wrap .i64 (IntKind.wrap .i64 ((((x0 :: r0).map Ent.sv).length : Int) + j) - k) < (q : Nat) := by
        rw [hW, hq, hT0l, hx0]; omega
      have hW2 : (T 0)[(IntKind.wrap .i64 (IntKind.wrap .i64 ((((x0 :: r0).map Ent.sv).length : Int) + j) - k)).toNat]? = some y := by rw [hW]; exact hyT
      have hsm := c_ref07_Same y y (hBb.1 y (List.mem_of_getElem? hy))
      rw [decide_eq_true rfl] at hsm
      have hlt' : (j : Int) < ((B.slots.map Ent.sv).length : Nat) := by rw [List.length_map]; omega
      conv => whnf
      repeat' (first
        | (refine bltG (by first | omega | (simp only [List.length_map] at *; omega)) ?_; conv => whnf)
        | (refine ndG (by assumption) ?_; conv => whnf)
        | (refine mulG ?_; conv => whnf)
        | (refine And.intro rfl ?_; conv => whnf)
        | (refine dsT (by assumption) ?_; conv => whnf)
        | (refine dsF (by assumption) ?_; conv => whnf)
        | (refine nsT (by assumption) ?_; conv => whnf)
        | (refine nsF (by assumption) ?_; conv => whnf)
        | (refine bsT (by assumption) ?_; conv => whnf)
        | (refine bsF (by assumption) ?_; conv => whnf)
        | (refine dsp ?_ ?_ <;> intro _ <;> conv => whnf)
        | (refine nsp ?_ ?_ <;> intro _ <;> conv => whnf)
        | (refine cnd_true (by assumption) ?_; conv => whnf)
        | (refine cnd_false (by assumption) ?_; conv => whnf)
        | (refine cnd_split ?_ ?_ <;> intro _ <;> conv => whnf)
        | (refine Cd.par tabOk (by kernel_rfl) (by kernel_rfl) ?_; conv => whnf)
        | (refine inb_mk hW0 hW1 ?_; conv => whnf)
        | (refine Fc.use (hsm) ?_ ?_; (focus ((repeat' constructor); done)); conv => whnf)
        | (refine CallQ.of (hsm) ?_ ?_; (focus ((repeat' constructor); done)); conv => whnf)
        | rfl
        | exact True.intro
        | (refine And.intro ?_ ?_ <;> conv => whnf))
      refine ⟨j + 1, ⟨by omega, .inl (by omega)⟩, ?_, ?_⟩
      · first | omega | (simp only [List.length_map] at *; omega)
      · (repeat' constructor) <;> first | (refine ivW ?_ ?_ ?_ <;> first | omega | (dsimp only; omega))
    · have hlt' : ¬ (j : Int) < ((B.slots.map Ent.sv).length : Nat) := by rw [List.length_map]; omega
      conv => whnf
      repeat' (first
        | (refine bltG (by first | omega | (simp only [List.length_map] at *; omega)) ?_; conv => whnf)
        | (refine ndG (by assumption) ?_; conv => whnf)
        | (refine mulG ?_; conv => whnf)
        | (refine And.intro rfl ?_; conv => whnf)
        | (refine dsT (by assumption) ?_; conv => whnf)
        | (refine dsF (by assumption) ?_; conv => whnf)
        | (refine nsT (by assumption) ?_; conv => whnf)
        | (refine nsF (by assumption) ?_; conv => whnf)
        | (refine bsT (by assumption) ?_; conv => whnf)
        | (refine bsF (by assumption) ?_; conv => whnf)
        | (refine dsp ?_ ?_ <;> intro _ <;> conv => whnf)
        | (refine nsp ?_ ?_ <;> intro _ <;> conv => whnf)
        | (refine cnd_true (by assumption) ?_; conv => whnf)
        | (refine cnd_false (by assumption) ?_; conv => whnf)
        | (refine cnd_split ?_ ?_ <;> intro _ <;> conv => whnf)
        | (refine Cd.par tabOk (by kernel_rfl) (by kernel_rfl) ?_; conv => whnf))
      rfl
end Go.Proofs.Ytmjpidjdbofdjaa

