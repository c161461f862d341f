import Derived.Test.YtmjpidjdbofdjaaGreatRc
/- Contracts of the references: bytes of numbers; of entries. -/
set_option linter.unusedVariables false
set_option linter.unusedSimpArgs false
set_option maxRecDepth 100000
set_option maxHeartbeats 1600000
namespace Go.Proofs.YtmjpidjdbofdjaaGreat
open Go Go.Sy
theorem and255 (m : Nat) : bitI .and .i64 (m : Int) 255 = ((m % 256 : Nat) : Int) := by
  have e : bitI .and .i64 (m : Int) 255 = IntKind.wrap .i64 (((BitVec.ofInt 64 (m : Int) &&& BitVec.ofInt 64 255).toNat : Nat) : Int) := rfl
  rw [e, BitVec.ofInt_natCast, BitVec.toNat_and, BitVec.toNat_ofNat]
  have h255 : (BitVec.ofInt 64 255).toNat = 2 ^ 8 - 1 := by decide
  rw [h255, Nat.and_two_pow_sub_one_eq_mod]
  have : m % 2 ^ 64 % 2 ^ 8 = m % 256 := by omega
  rw [this]
  exact wrap_i64 (by omega) (by omega)
theorem by8_mod {x : Int} (h : 0 ≤ x) : IntKind.wrap .u8 (x.tmod 256) = by8 x := by
  obtain ⟨m, rfl⟩ : ∃ m : Nat, x = m := ⟨x.toNat, by omega⟩
  unfold by8
  rw [and255, Int.tmod_eq_emod_of_nonneg (by omega)]
  rfl
theorem sh_nn {n : Int} (h : 0 ≤ n) : ∀ i, 0 ≤ sh i n ∧ sh i n ≤ n
  | 0 => ⟨h, Int.le_refl _⟩
  | i + 1 => by
    obtain ⟨h1, h2⟩ := sh_nn h i
    show 0 ≤ s8 (sh i n) ∧ s8 (sh i n) ≤ n
    rw [s8_nn h1]; omega
theorem quo_s8 {x : Int} (h : 0 ≤ x) (h1 : x ≤ 9223372036854775807) : IntKind.wrap .i64 (x.tdiv 256) = s8 x := by
  rw [s8_nn h, Int.tdiv_eq_ediv_of_nonneg h]
  exact wrap_i64 (by omega) (by omega)
def dq : Nat → Int → List Int
  | 0, _ => []
  | i + 1, n => dq i n ++ [by8 (sh i n)]
theorem dq_len (n : Int) : ∀ i, (dq i n).length = i
  | 0 => rfl
  | i + 1 => by rw [dq, List.length_append, dq_len n i]; rfl
theorem r_Put (n : Int) (w : Nat) (hw : 1 ≤ w ∧ w ≤ 7) (h0 : 0 ≤ n) (h1 : n ≤ 9223372036854775807) (t : ByteArray) (ht : u8s (dq w n) = bytesSV t) :
    Fc Tryz.prog n_ouroborosref01_Put [iv n, iv w] (.tup [ss (if ¬ 0 < sh w n then t else ⟨#[]⟩), iv (if ¬ 0 < sh w n then 0 else 1)]) := by
  have hmx : 4096 ≤ maxLen := by decide
  have w1 : ¬ (w : Int) < 1 := by omega
  have w7 : ¬ 7 < (w : Int) := by omega
  have n0 : ¬ n < 0 := by omega
  refine Fc.of_body tabOk q_ouroborosref01_Put (by kernel_rfl) (rfl) (rfl) ?_
  conv => whnf
  repeat' (first
    | (refine bltG (by first | omega | (simp only [List.length_map] at *; omega)) ?_; conv => whnf)
    | (refine ndG (by assumption) ?_; conv => whnf)
    | (refine mulG ?_; conv => whnf)
    | (refine And.intro rfl ?_; conv => whnf)
    | (refine dsT (by assumption) ?_; conv => whnf)
    | (refine dsF (by assumption) ?_; conv => whnf)
    | (refine nsT (by assumption) ?_; conv => whnf)
    | (refine nsF (by assumption) ?_; conv => whnf)
    | (refine bsT (by assumption) ?_; conv => whnf)
    | (refine bsF (by assumption) ?_; conv => whnf)
    | (refine dsp ?_ ?_ <;> intro _ <;> conv => whnf)
    | (refine nsp ?_ ?_ <;> intro _ <;> conv => whnf)
    | (refine cnd_true (by assumption) ?_; conv => whnf)
    | (refine cnd_false (by assumption) ?_; conv => whnf)
    | (refine cnd_split ?_ ?_ <;> intro _ <;> conv => whnf)
    | (refine Cd.par tabOk (by kernel_rfl) (by kernel_rfl) ?_; conv => whnf))
  refine Cd.nilRow t_uint8 1 ?_
  conv => whnf
  refine loopP2 tabOk (fun (i : Nat) (q : Q3) => i ≤ w ∧ q.n = i ∧ RowV q.A q.n q.c)
    (fun i q => ⟨[(7, iv i), (6, .own 0 q.A q.n q.c), (0, iv (sh i n)), (1, iv w)], []⟩)
    (fun i q => ⟨0, [], [⟨q.A, q.n, q.c, t_uint8, 1, u8s (dq i n), false⟩]⟩)
    (fun i q => w - i) 0 ⟨none, 0, 0⟩ ⟨Nat.zero_le _, rfl, ⟨Nat.le_refl _, Nat.zero_le _, fun _ => ⟨rfl, rfl⟩, fun _ h => by cases h⟩⟩ (by repeat' constructor) (fun _ _ => rfl) ?_
  rintro i ⟨A, m, c⟩ ⟨hi, hm, hv⟩
  simp only at hm hv
  subst hm
  conv => whnf
  refine dsp ?_ ?_ <;> intro hlt <;> conv => whnf
  · obtain ⟨s0, s1⟩ := sh_nn h0 m
    have hby := by8_mod s0
    have hqu := quo_s8 s0 (by omega)
    repeat' (first
      | (refine bltG (by first | omega | (simp only [List.length_map] at *; omega)) ?_; conv => whnf)
      | (refine ndG (by assumption) ?_; conv => whnf)
      | (refine mulG ?_; conv => whnf)
      | (refine And.intro rfl ?_; conv => whnf)
      | (refine dsT (by assumption) ?_; conv => whnf)
      | (refine dsF (by assumption) ?_; conv => whnf)
      | (refine nsT (by assumption) ?_; conv => whnf)
      | (refine nsF (by assumption) ?_; conv => whnf)
      | (refine bsT (by assumption) ?_; conv => whnf)
      | (refine bsF (by assumption) ?_; conv => whnf)
      | (refine dsp ?_ ?_ <;> intro _ <;> conv => whnf)
      | (refine nsp ?_ ?_ <;> intro _ <;> conv => whnf)
      | (refine cnd_true (by assumption) ?_; conv => whnf)
      | (refine cnd_false (by assumption) ?_; conv => whnf)
      | (refine cnd_split ?_ ?_ <;> intro _ <;> conv => whnf)
      | (refine Cd.par tabOk (by kernel_rfl) (by kernel_rfl) ?_; conv => whnf)
      | rfl
      | exact True.intro
      | (refine And.intro ?_ ?_ <;> conv => whnf))
    · refine Nat.le_trans (?_ : _ ≤ 4096) hmx
      simp only [List.length_cons, List.length_nil]; omega
    · refine Nat.le_trans (Nat.mul_le_mul_right _ (?_ : _ ≤ 4096)) (by decide)
      simp only [List.length_cons, List.length_nil]; omega
    intro A' c' hv'
    refine lfI ?_
    conv => whnf
    repeat' (first
      | (refine bltG (by first | omega | (simp only [List.length_map] at *; omega)) ?_; conv => whnf)
      | (refine ndG (by assumption) ?_; conv => whnf)
      | (refine mulG ?_; conv => whnf)
      | (refine And.intro rfl ?_; conv => whnf)
      | (refine dsT (by assumption) ?_; conv => whnf)
      | (refine dsF (by assumption) ?_; conv => whnf)
      | (refine nsT (by assumption) ?_; conv => whnf)
      | (refine nsF (by assumption) ?_; conv => whnf)
      | (refine bsT (by assumption) ?_; conv => whnf)
      | (refine bsF (by assumption) ?_; conv => whnf)
      | (refine dsp ?_ ?_ <;> intro _ <;> conv => whnf)
      | (refine nsp ?_ ?_ <;> intro _ <;> conv => whnf)
      | (refine cnd_true (by assumption) ?_; conv => whnf)
      | (refine cnd_false (by assumption) ?_; conv => whnf)
      | (refine cnd_split ?_ ?_ <;> intro _ <;> conv => whnf)
      | (refine Cd.par tabOk (by kernel_rfl) (by kernel_rfl) ?_; conv => whnf)
      | rfl
      | exact True.intro
      | (refine And.intro ?_ ?_ <;> conv => whnf))
    refine ⟨m + 1, ⟨A', m + 1, c'⟩, ⟨by omega, rfl, hv'⟩, by omega, ⟨?_, rfl, ⟨?_, trivial⟩, trivial, rfl, .inl rfl⟩⟩
    · refine ⟨?_, rfl, ?_, rfl, trivial⟩
      · refine ivW ?_ ?_ ?_ <;> omega
      · exact congrArg iv hqu
    · exact rowEq (by show u8s (dq m n ++ [by8 (sh m n)]) = _; rw [← hby]; simp [u8s, u8v])
  · obtain rfl : m = w := by omega
    by_cases hz : 0 < sh m n
    · rw [if_neg (fun h => h hz), if_neg (fun h => h hz)]
      repeat' (first
        | (refine bltG (by first | omega | (simp only [List.length_map] at *; omega)) ?_; conv => whnf)
        | (refine ndG (by assumption) ?_; conv => whnf)
        | (refine mulG ?_; conv => whnf)
        | (refine And.intro rfl ?_; conv => whnf)
        | (refine dsT (by assumption) ?_; conv => whnf)
        | (refine dsF (by assumption) ?_; conv => whnf)
        | (refine nsT (by assumption) ?_; conv => whnf)
        | (refine nsF (by assumption) ?_; conv => whnf)
        | (refine bsT (by assumption) ?_; conv => whnf)
        | (refine bsF (by assumption) ?_; conv => whnf)
        | (refine dsp ?_ ?_ <;> intro _ <;> conv => whnf)
        | (refine nsp ?_ ?_ <;> intro _ <;> conv => whnf)
        | (refine cnd_true (by assumption) ?_; conv => whnf)
        | (refine cnd_false (by assumption) ?_; conv => whnf)
        | (refine cnd_split ?_ ?_ <;> intro _ <;> conv => whnf)
        | (refine Cd.par tabOk (by kernel_rfl) (by kernel_rfl) ?_; conv => whnf))
      all_goals first | rfl | (repeat' constructor)
    · rw [if_pos hz, if_pos hz]
      repeat' (first
        | (refine exB t ht ?_; conv => whnf)
        | (refine bltG (by first | omega | (simp only [List.length_map] at *; omega)) ?_; conv => whnf)
        | (refine ndG (by assumption) ?_; conv => whnf)
        | (refine mulG ?_; conv => whnf)
        | (refine And.intro rfl ?_; conv => whnf)
        | (refine dsT (by assumption) ?_; conv => whnf)
        | (refine dsF (by assumption) ?_; conv => whnf)
        | (refine nsT (by assumption) ?_; conv => whnf)
        | (refine nsF (by assumption) ?_; conv => whnf)
        | (refine bsT (by assumption) ?_; conv => whnf)
        | (refine bsF (by assumption) ?_; conv => whnf)
        | (refine dsp ?_ ?_ <;> intro _ <;> conv => whnf)
        | (refine nsp ?_ ?_ <;> intro _ <;> conv => whnf)
        | (refine cnd_true (by assumption) ?_; conv => whnf)
        | (refine cnd_false (by assumption) ?_; conv => whnf)
        | (refine cnd_split ?_ ?_ <;> intro _ <;> conv => whnf)
        | (refine Cd.par tabOk (by kernel_rfl) (by kernel_rfl) ?_; conv => whnf))
      all_goals first | rfl | (repeat' constructor)
theorem r_Put_neg (n : Int) (w : Nat) (hw : 1 ≤ w ∧ w ≤ 7) (h0 : n < 0) : Fc Tryz.prog n_ouroborosref01_Put [iv n, iv w] (.tup [ss ⟨#[]⟩, iv 1]) := by
  have w1 : ¬ (w : Int) < 1 := by omega
  have w7 : ¬ 7 < (w : Int) := by omega
  refine Fc.of_body tabOk q_ouroborosref01_Put (by kernel_rfl) (rfl) (rfl) ?_
  conv => whnf
  repeat' (first
    | (refine bltG (by first | omega | (simp only [List.length_map] at *; omega)) ?_; conv => whnf)
    | (refine ndG (by assumption) ?_; conv => whnf)
    | (refine mulG ?_; conv => whnf)
    | (refine And.intro rfl ?_; conv => whnf)
    | (refine dsT (by assumption) ?_; conv => whnf)
    | (refine dsF (by assumption) ?_; conv => whnf)
    | (refine nsT (by assumption) ?_; conv => whnf)
    | (refine nsF (by assumption) ?_; conv => whnf)
    | (refine bsT (by assumption) ?_; conv => whnf)
    | (refine bsF (by assumption) ?_; conv => whnf)
    | (refine dsp ?_ ?_ <;> intro _ <;> conv => whnf)
    | (refine nsp ?_ ?_ <;> intro _ <;> conv => whnf)
    | (refine cnd_true (by assumption) ?_; conv => whnf)
    | (refine cnd_false (by assumption) ?_; conv => whnf)
    | (refine cnd_split ?_ ?_ <;> intro _ <;> conv => whnf)
    | (refine Cd.par tabOk (by kernel_rfl) (by kernel_rfl) ?_; conv => whnf))
  all_goals first | rfl | (repeat' constructor)
theorem r_Put4 (n : Int) (h1 : n ≤ 9223372036854775807) : Fc Tryz.prog n_ouroborosref01_Put [iv n, iv 4] (.tup [ss (num4 n), iv (if octOk n then 0 else 1)]) := by
  by_cases h0 : 0 ≤ n
  · have h := r_Put n 4 (by omega) h0 h1 (octT n) (by rw [← octT_eq]; rfl)
    unfold num4
    by_cases hz : 0 < sh 4 n
    · rw [if_neg (fun h => h hz), if_neg (fun h => h hz)] at h
      rw [if_neg (fun q : octOk n => q.2 hz), if_neg (fun q : octOk n => q.2 hz)]; exact h
    · rw [if_pos hz, if_pos hz] at h
      have hq : octOk n := ⟨h0, hz⟩
      rw [if_pos hq, if_pos hq]; exact h
  · unfold num4
    rw [if_neg (fun q : octOk n => h0 q.1), if_neg (fun q : octOk n => h0 q.1)]
    exact r_Put_neg n 4 (by omega) (by omega)
theorem r_Put1 (n : Int) (h1 : n ≤ 9223372036854775807) : Fc Tryz.prog n_ouroborosref01_Put [iv n, iv 1] (.tup [ss (num1 n), iv (if octOk1 n then 0 else 1)]) := by
  by_cases h0 : 0 ≤ n
  · have h := r_Put n 1 (by omega) h0 h1 (octT1 n) (by rw [← octT_eq1]; rfl)
    unfold num1
    by_cases hz : 0 < sh 1 n
    · rw [if_neg (fun h => h hz), if_neg (fun h => h hz)] at h
      rw [if_neg (fun q : octOk1 n => q.2 hz), if_neg (fun q : octOk1 n => q.2 hz)]; exact h
    · rw [if_pos hz, if_pos hz] at h
      have hq : octOk1 n := ⟨h0, hz⟩
      rw [if_pos hq, if_pos hq]; exact h
  · unfold num1
    rw [if_neg (fun q : octOk1 n => h0 q.1), if_neg (fun q : octOk1 n => h0 q.1)]
    exact r_Put_neg n 1 (by omega) (by omega)
theorem r_Put2 (n : Int) (h1 : n ≤ 9223372036854775807) : Fc Tryz.prog n_ouroborosref01_Put [iv n, iv 2] (.tup [ss (num2 n), iv (if octOk2 n then 0 else 1)]) := by
  by_cases h0 : 0 ≤ n
  · have h := r_Put n 2 (by omega) h0 h1 (octT2 n) (by rw [← octT_eq2]; rfl)
    unfold num2
    by_cases hz : 0 < sh 2 n
    · rw [if_neg (fun h => h hz), if_neg (fun h => h hz)] at h
      rw [if_neg (fun q : octOk2 n => q.2 hz), if_neg (fun q : octOk2 n => q.2 hz)]; exact h
    · rw [if_pos hz, if_pos hz] at h
      have hq : octOk2 n := ⟨h0, hz⟩
      rw [if_pos hq, if_pos hq]; exact h
  · unfold num2
    rw [if_neg (fun q : octOk2 n => h0 q.1), if_neg (fun q : octOk2 n => h0 q.1)]
    exact r_Put_neg n 2 (by omega) (by omega)
theorem r_num4 (n : Int) (h1 : n ≤ 9223372036854775807) : Fc Tryz.prog n_ouroborosref07_num [iv n, iv 4] (ss (num4 n)) := by
  have h := r_Put4 n h1
  refine Fc.of_body tabOk q_ouroborosref07_num (by kernel_rfl) (rfl) (rfl) ?_
  conv => whnf
  repeat' (first
    | (refine bltG (by first | omega | (simp only [List.length_map] at *; omega)) ?_; conv => whnf)
    | (refine ndG (by assumption) ?_; conv => whnf)
    | (refine mulG ?_; conv => whnf)
    | (refine And.intro rfl ?_; conv => whnf)
    | (refine dsT (by assumption) ?_; conv => whnf)
    | (refine dsF (by assumption) ?_; conv => whnf)
    | (refine nsT (by assumption) ?_; conv => whnf)
    | (refine nsF (by assumption) ?_; conv => whnf)
    | (refine bsT (by assumption) ?_; conv => whnf)
    | (refine bsF (by assumption) ?_; conv => whnf)
    | (refine dsp ?_ ?_ <;> intro _ <;> conv => whnf)
    | (refine nsp ?_ ?_ <;> intro _ <;> conv => whnf)
    | (refine cnd_true (by assumption) ?_; conv => whnf)
    | (refine cnd_false (by assumption) ?_; conv => whnf)
    | (refine cnd_split ?_ ?_ <;> intro _ <;> conv => whnf)
    | (refine Cd.par tabOk (by kernel_rfl) (by kernel_rfl) ?_; conv => whnf)
    | (refine Fc.use (h) ?_ ?_; (focus ((repeat' constructor); done)); conv => whnf)
    | (refine CallQ.of (h) ?_ ?_; (focus ((repeat' constructor); done)); conv => whnf))
  all_goals first | rfl | (repeat' constructor)
theorem r_num1 (n : Int) (h1 : n ≤ 9223372036854775807) : Fc Tryz.prog n_ouroborosref07_num [iv n, iv 1] (ss (num1 n)) := by
  have h := r_Put1 n h1
  refine Fc.of_body tabOk q_ouroborosref07_num (by kernel_rfl) (rfl) (rfl) ?_
  conv => whnf
  repeat' (first
    | (refine bltG (by first | omega | (simp only [List.length_map] at *; omega)) ?_; conv => whnf)
    | (refine ndG (by assumption) ?_; conv => whnf)
    | (refine mulG ?_; conv => whnf)
    | (refine And.intro rfl ?_; conv => whnf)
    | (refine dsT (by assumption) ?_; conv => whnf)
    | (refine dsF (by assumption) ?_; conv => whnf)
    | (refine nsT (by assumption) ?_; conv => whnf)
    | (refine nsF (by assumption) ?_; conv => whnf)
    | (refine bsT (by assumption) ?_; conv => whnf)
    | (refine bsF (by assumption) ?_; conv => whnf)
    | (refine dsp ?_ ?_ <;> intro _ <;> conv => whnf)
    | (refine nsp ?_ ?_ <;> intro _ <;> conv => whnf)
    | (refine cnd_true (by assumption) ?_; conv => whnf)
    | (refine cnd_false (by assumption) ?_; conv => whnf)
    | (refine cnd_split ?_ ?_ <;> intro _ <;> conv => whnf)
    | (refine Cd.par tabOk (by kernel_rfl) (by kernel_rfl) ?_; conv => whnf)
    | (refine Fc.use (h) ?_ ?_; (focus ((repeat' constructor); done)); conv => whnf)
    | (refine CallQ.of (h) ?_ ?_; (focus ((repeat' constructor); done)); conv => whnf))
  all_goals first | rfl | (repeat' constructor)
theorem r_num2 (n : Int) (h1 : n ≤ 9223372036854775807) : Fc Tryz.prog n_ouroborosref07_num [iv n, iv 2] (ss (num2 n)) := by
  have h := r_Put2 n h1
  refine Fc.of_body tabOk q_ouroborosref07_num (by kernel_rfl) (rfl) (rfl) ?_
  conv => whnf
  repeat' (first
    | (refine bltG (by first | omega | (simp only [List.length_map] at *; omega)) ?_; conv => whnf)
    | (refine ndG (by assumption) ?_; conv => whnf)
    | (refine mulG ?_; conv => whnf)
    | (refine And.intro rfl ?_; conv => whnf)
    | (refine dsT (by assumption) ?_; conv => whnf)
    | (refine dsF (by assumption) ?_; conv => whnf)
    | (refine nsT (by assumption) ?_; conv => whnf)
    | (refine nsF (by assumption) ?_; conv => whnf)
    | (refine bsT (by assumption) ?_; conv => whnf)
    | (refine bsF (by assumption) ?_; conv => whnf)
    | (refine dsp ?_ ?_ <;> intro _ <;> conv => whnf)
    | (refine nsp ?_ ?_ <;> intro _ <;> conv => whnf)
    | (refine cnd_true (by assumption) ?_; conv => whnf)
    | (refine cnd_false (by assumption) ?_; conv => whnf)
    | (refine cnd_split ?_ ?_ <;> intro _ <;> conv => whnf)
    | (refine Cd.par tabOk (by kernel_rfl) (by kernel_rfl) ?_; conv => whnf)
    | (refine Fc.use (h) ?_ ?_; (focus ((repeat' constructor); done)); conv => whnf)
    | (refine CallQ.of (h) ?_ ?_; (focus ((repeat' constructor); done)); conv => whnf))
  all_goals first | rfl | (repeat' constructor)
theorem r_bit (b : Bool) : Fc Tryz.prog n_ouroborosref07_bit [sb b] (iv (if b = true then 1 else 0)) := by
  cases b
  all_goals
    refine Fc.of_body tabOk q_ouroborosref07_bit (by kernel_rfl) (rfl) (rfl) ?_
    conv => whnf
    repeat' (first
      | (refine bltG (by first | omega | (simp only [List.length_map] at *; omega)) ?_; conv => whnf)
      | (refine ndG (by assumption) ?_; conv => whnf)
      | (refine mulG ?_; conv => whnf)
      | (refine And.intro rfl ?_; conv => whnf)
      | (refine dsT (by assumption) ?_; conv => whnf)
      | (refine dsF (by assumption) ?_; conv => whnf)
      | (refine nsT (by assumption) ?_; conv => whnf)
      | (refine nsF (by assumption) ?_; conv => whnf)
      | (refine bsT (by assumption) ?_; conv => whnf)
      | (refine bsF (by assumption) ?_; conv => whnf)
      | (refine dsp ?_ ?_ <;> intro _ <;> conv => whnf)
      | (refine nsp ?_ ?_ <;> intro _ <;> conv => whnf)
      | (refine cnd_true (by assumption) ?_; conv => whnf)
      | (refine cnd_false (by assumption) ?_; conv => whnf)
      | (refine cnd_split ?_ ?_ <;> intro _ <;> conv => whnf)
      | (refine Cd.par tabOk (by kernel_rfl) (by kernel_rfl) ?_; conv => whnf))
    all_goals first | rfl | (repeat' constructor)
theorem cl_app (s : ByteArray) (l : List Int) : ∀ i, cl s l i = s ++ cl ⟨#[]⟩ l i
  | 0 => ByteArray.ext (by simp [cl, ByteArray.data_append])
  | i + 1 => by
    rcases Nat.lt_or_ge i l.length with hi | hi
    · rw [cl_succ (List.getElem?_eq_getElem hi), cl_succ (List.getElem?_eq_getElem hi), cl_app s l i, ByteArray.append_assoc]
    · have e : ∀ t, cl t l (i + 1) = cl t l i := fun t => by unfold cl; rw [List.take_of_length_le (by omega), List.take_of_length_le (by omega)]
      rw [e, e]; exact cl_app s l i
theorem r_nums (l : List Int) (hl : l.length ≤ 1000) (hb : ∀ z ∈ l, z ≤ 9223372036854775807) : Fc Tryz.prog n_ouroborosref07_nums [ints l] (ss (cl ⟨#[]⟩ l l.length)) := by
  have hN : (l.map iv).length = l.length := List.length_map ..
  refine Fc.of_body tabOk q_ouroborosref07_nums (by kernel_rfl) ((blwL_one (blw_ints 0 l))) (rfl) ?_
  conv => whnf
  refine loopP tabOk (fun i : Nat => i ≤ l.length) (fun i => ⟨[(4, iv i), (3, ss (cl ⟨#[]⟩ l i)), (0, ints l)], []⟩) (fun _ => ⟨0, [], []⟩) (fun i => l.length - i) 0 (Nat.zero_le _) (by repeat' constructor) (fun _ => rfl) ?_
  intro i hi
  conv => whnf
  refine dsp ?_ ?_ <;> intro hlt <;> conv => whnf
  · rw [hN] at hlt
    obtain ⟨x, hx⟩ : ∃ x, l[i]? = some x := ⟨_, List.getElem?_eq_getElem (by omega)⟩
    have hn := r_num2 x (hb x (List.mem_of_getElem? hx))
    have hz1 := cl_size2 ⟨#[]⟩ l i
    have hz2 := num2_le x
    have hz : (cl ⟨#[]⟩ l i).size + (num2 x).size ≤ 9223372036854775807 := by
      have : (⟨#[]⟩ : ByteArray).size = 0 := rfl
      omega
    repeat' (first
      | (refine addSz hz ?_; conv => whnf)
      | (refine bltG (by first | omega | (simp only [List.length_map] at *; omega)) ?_; conv => whnf)
      | (refine ndG (by assumption) ?_; conv => whnf)
      | (refine mulG ?_; conv => whnf)
      | (refine And.intro rfl ?_; conv => whnf)
      | (refine dsT (by assumption) ?_; conv => whnf)
      | (refine dsF (by assumption) ?_; conv => whnf)
      | (refine nsT (by assumption) ?_; conv => whnf)
      | (refine nsF (by assumption) ?_; conv => whnf)
      | (refine bsT (by assumption) ?_; conv => whnf)
      | (refine bsF (by assumption) ?_; conv => whnf)
      | (refine dsp ?_ ?_ <;> intro _ <;> conv => whnf)
      | (refine nsp ?_ ?_ <;> intro _ <;> conv => whnf)
      | (refine cnd_true (by assumption) ?_; conv => whnf)
      | (refine cnd_false (by assumption) ?_; conv => whnf)
      | (refine cnd_split ?_ ?_ <;> intro _ <;> conv => whnf)
      | (refine Cd.par tabOk (by kernel_rfl) (by kernel_rfl) ?_; conv => whnf)
      | (refine Fc.use (hn) ?_ ?_; (focus ((repeat' constructor); done)); conv => whnf)
      | (refine CallQ.of (hn) ?_ ?_; (focus ((repeat' constructor); done)); conv => whnf))
    refine ⟨i + 1, by omega, by omega, ⟨⟨?_, ?_, by repeat' constructor⟩, rfl, trivial, trivial, rfl, .inl rfl⟩⟩
    · refine ivW ?_ ?_ ?_ <;> omega
    · exact congrArg ss (cl_succ hx).symm
  · obtain rfl : i = l.length := by rw [hN] at hlt; omega
    repeat' (first
      | (refine bltG (by first | omega | (simp only [List.length_map] at *; omega)) ?_; conv => whnf)
      | (refine ndG (by assumption) ?_; conv => whnf)
      | (refine mulG ?_; conv => whnf)
      | (refine And.intro rfl ?_; conv => whnf)
      | (refine dsT (by assumption) ?_; conv => whnf)
      | (refine dsF (by assumption) ?_; conv => whnf)
      | (refine nsT (by assumption) ?_; conv => whnf)
      | (refine nsF (by assumption) ?_; conv => whnf)
      | (refine bsT (by assumption) ?_; conv => whnf)
      | (refine bsF (by assumption) ?_; conv => whnf)
      | (refine dsp ?_ ?_ <;> intro _ <;> conv => whnf)
      | (refine nsp ?_ ?_ <;> intro _ <;> conv => whnf)
      | (refine cnd_true (by assumption) ?_; conv => whnf)
      | (refine cnd_false (by assumption) ?_; conv => whnf)
      | (refine cnd_split ?_ ?_ <;> intro _ <;> conv => whnf)
      | (refine Cd.par tabOk (by kernel_rfl) (by kernel_rfl) ?_; conv => whnf))
    all_goals first | rfl | (repeat' constructor)
theorem r_pad (s : ByteArray) (n m : Nat) (hs : s.size ≤ n) (hn : n ≤ 100) (hm : n - s.size = m) : Fc Tryz.prog n_ouroborosref07_pad [ss s, iv n] (ss (s ++ zeros m)) := by
  have hw : IntKind.wrap .i64 ((n : Int) - (s.size : Int)) = (m : Int) := wrap_i64' (by omega) (by omega) (by omega)
  have hmx : m ≤ maxLen := by unfold maxLen; omega
  have hz : s.size + (zeros m).size ≤ 9223372036854775807 := by rw [zeros_size]; omega
  refine Fc.of_body tabOk q_ouroborosref07_pad (by kernel_rfl) (rfl) (rfl) ?_
  conv => whnf
  repeat' (first
    | (refine addSz hz ?_; conv => whnf)
    | (refine exB (zeros m) (zeros_sv m) ?_; conv => whnf)
    | (refine mkC (Nat.le_refl _) (by omega) hmx rfl rfl fun gz => ?_; conv => whnf)
    | (refine nngW hw ?_; conv => whnf)
    | (refine bltG (by first | omega | (simp only [List.length_map] at *; omega)) ?_; conv => whnf)
    | (refine ndG (by assumption) ?_; conv => whnf)
    | (refine mulG ?_; conv => whnf)
    | (refine And.intro rfl ?_; conv => whnf)
    | (refine dsT (by assumption) ?_; conv => whnf)
    | (refine dsF (by assumption) ?_; conv => whnf)
    | (refine nsT (by assumption) ?_; conv => whnf)
    | (refine nsF (by assumption) ?_; conv => whnf)
    | (refine bsT (by assumption) ?_; conv => whnf)
    | (refine bsF (by assumption) ?_; conv => whnf)
    | (refine dsp ?_ ?_ <;> intro _ <;> conv => whnf)
    | (refine nsp ?_ ?_ <;> intro _ <;> conv => whnf)
    | (refine cnd_true (by assumption) ?_; conv => whnf)
    | (refine cnd_false (by assumption) ?_; conv => whnf)
    | (refine cnd_split ?_ ?_ <;> intro _ <;> conv => whnf)
    | (refine Cd.par tabOk (by kernel_rfl) (by kernel_rfl) ?_; conv => whnf)
    | rfl
    | exact True.intro
    | (refine And.intro ?_ ?_ <;> conv => whnf))
def datT (v : Val) : ByteArray :=
  if v.kind = 1 then num4 v.time ++ num1 v.node ++ num1 (if v.dead = true then 1 else 0) ++ num1 v.text.size ++ v.text
  else if v.kind = 2 then cl ⟨#[]⟩ v.plus v.plus.length ++ cl ⟨#[]⟩ v.minus v.minus.length
  else num4 (fl1 v) ++ num4 (fl2 v)
theorem and32 (m : Nat) (hm : m < 18446744073709551616) : bitI .and .u64 (m : Int) 4294967295 = ((m % 4294967296 : Nat) : Int) := by
  have e : bitI .and .u64 (m : Int) 4294967295 = IntKind.wrap .u64 (((BitVec.ofInt 64 (m : Int) &&& BitVec.ofInt 64 4294967295).toNat : Nat) : Int) := rfl
  rw [e, BitVec.ofInt_natCast, BitVec.toNat_and, BitVec.toNat_ofNat]
  have h255 : (BitVec.ofInt 64 4294967295).toNat = 2 ^ 32 - 1 := by decide
  rw [h255, Nat.and_two_pow_sub_one_eq_mod, show IntKind.wrap .u64 ((m % 2 ^ 64 % 2 ^ 32 : Nat) : Int) = ((m % 2 ^ 64 % 2 ^ 32 : Nat) : Int) % 18446744073709551616 from rfl]
  omega
theorem fl1_eq {v : Val} (h : 0 ≤ v.flags ∧ v.flags < 18446744073709551616) : fl1 v = v.flags.tmod 4294967296 ∧ IntKind.wrap .i64 (v.flags.tmod 4294967296) = fl1 v := by
  obtain ⟨m, hm⟩ : ∃ m : Nat, v.flags = m := ⟨v.flags.toNat, by omega⟩
  unfold fl1
  rw [hm, and32 m (by omega), Int.tmod_eq_emod_of_nonneg (by omega)]
  exact ⟨(wrap_i64 (by omega) (by omega)).trans (by omega), by congr 1⟩
theorem fl2_eq {v : Val} (h : 0 ≤ v.flags ∧ v.flags < 18446744073709551616) : fl2 v ≤ 4294967296 ∧ IntKind.wrap .i64 (IntKind.wrap .u64 (v.flags.tdiv 4294967296)) = fl2 v := by
  unfold fl2
  rw [show (2 : Int) ^ (min 32 IntKind.u64.bits) = 4294967296 from rfl, Int.fdiv_eq_ediv_of_nonneg _ (by omega), Int.tdiv_eq_ediv_of_nonneg h.1]
  have hw : IntKind.wrap .u64 (v.flags / 4294967296) = v.flags / 4294967296 := by
    rw [show IntKind.wrap .u64 (v.flags / 4294967296) = (v.flags / 4294967296) % 18446744073709551616 from rfl]; omega
  rw [hw]
  exact ⟨by rw [wrap_i64 (by omega) (by omega)]; omega, rfl⟩
theorem num4_le4 (n : Int) : (num4 n).size ≤ 4 := num4_le n
theorem r_data (v : Val) (hv : valOk v) (hf : 0 ≤ v.flags ∧ v.flags < 18446744073709551616) : Fc Tryz.prog n_ouroborosref07_data [v.sv] (ss (datT v)) := by
  rcases hv with ⟨k, hr⟩ | ⟨k, hc⟩ | ⟨k, hg⟩
  · have n1 := r_num4 v.time (by have := hr.2.2.1; omega)
    have n2 := r_num1 v.node (by have := hr.2.2.2.2.1; omega)
    have n3 := r_bit v.dead
    have n4 := r_num1 (if v.dead = true then 1 else 0) (by split <;> omega)
    have ht := hr.2.2.2.2.2.1
    have n5 := r_num1 (v.text.size : Int) (by omega)
    have z1 := num4_le v.time
    have z2 := num1_le v.node
    have z3 := num1_le (if v.dead = true then 1 else 0)
    have z4 := num1_le (v.text.size : Int)
    have e : datT v = num4 v.time ++ num1 v.node ++ num1 (if v.dead = true then 1 else 0) ++ num1 v.text.size ++ v.text := if_pos k
    rw [e]
    have h1 : (num4 v.time).size + (num1 v.node).size ≤ 9223372036854775807 := by omega
    have h2 : (num4 v.time ++ num1 v.node).size + (num1 (if v.dead = true then 1 else 0)).size ≤ 9223372036854775807 := by simp only [ByteArray.size_append]; omega
    have h3 : (num4 v.time ++ num1 v.node ++ num1 (if v.dead = true then 1 else 0)).size + (num1 (v.text.size : Int)).size ≤ 9223372036854775807 := by simp only [ByteArray.size_append]; omega
    have h4 : (num4 v.time ++ num1 v.node ++ num1 (if v.dead = true then 1 else 0) ++ num1 (v.text.size : Int)).size + v.text.size ≤ 9223372036854775807 := by simp only [ByteArray.size_append]; omega
    generalize num4 v.time = a1 at *
    generalize num1 v.node = a2 at *
    generalize (if v.dead = true then (1 : Int) else 0) = d0 at *
    generalize num1 d0 = a3 at *
    generalize num1 (v.text.size : Int) = a4 at *
    refine Fc.of_body tabOk q_ouroborosref07_data (by kernel_rfl) ((blwL_one (blw_val 0 v))) (rfl) ?_
    conv => whnf
    repeat' (first
      | (refine addSz h4 ?_; conv => whnf)
      | (refine addSz h3 ?_; conv => whnf)
      | (refine addSz h2 ?_; conv => whnf)
      | (refine addSz h1 ?_; conv => whnf)
      | (refine bltG (by first | omega | (simp only [List.length_map] at *; omega)) ?_; conv => whnf)
      | (refine ndG (by assumption) ?_; conv => whnf)
      | (refine mulG ?_; conv => whnf)
      | (refine And.intro rfl ?_; conv => whnf)
      | (refine dsT (by assumption) ?_; conv => whnf)
      | (refine dsF (by assumption) ?_; conv => whnf)
      | (refine nsT (by assumption) ?_; conv => whnf)
      | (refine nsF (by assumption) ?_; conv => whnf)
      | (refine bsT (by assumption) ?_; conv => whnf)
      | (refine bsF (by assumption) ?_; conv => whnf)
      | (refine dsp ?_ ?_ <;> intro _ <;> conv => whnf)
      | (refine nsp ?_ ?_ <;> intro _ <;> conv => whnf)
      | (refine cnd_true (by assumption) ?_; conv => whnf)
      | (refine cnd_false (by assumption) ?_; conv => whnf)
      | (refine cnd_split ?_ ?_ <;> intro _ <;> conv => whnf)
      | (refine Cd.par tabOk (by kernel_rfl) (by kernel_rfl) ?_; conv => whnf)
      | (refine Fc.use (n1) ?_ ?_; (focus ((repeat' constructor); done)); conv => whnf)
      | (refine CallQ.of (n1) ?_ ?_; (focus ((repeat' constructor); done)); conv => whnf)
      | (refine Fc.use (n2) ?_ ?_; (focus ((repeat' constructor); done)); conv => whnf)
      | (refine CallQ.of (n2) ?_ ?_; (focus ((repeat' constructor); done)); conv => whnf)
      | (refine Fc.use (n3) ?_ ?_; (focus ((repeat' constructor); done)); conv => whnf)
      | (refine CallQ.of (n3) ?_ ?_; (focus ((repeat' constructor); done)); conv => whnf)
      | (refine Fc.use (n4) ?_ ?_; (focus ((repeat' constructor); done)); conv => whnf)
      | (refine CallQ.of (n4) ?_ ?_; (focus ((repeat' constructor); done)); conv => whnf)
      | (refine Fc.use (n5) ?_ ?_; (focus ((repeat' constructor); done)); conv => whnf)
      | (refine CallQ.of (n5) ?_ ?_; (focus ((repeat' constructor); done)); conv => whnf))
    all_goals first | rfl | (repeat' constructor)
  · have hk1 : ¬ v.kind = 1 := by omega
    have hb : ∀ (l : List Int), l.any (fun n => decide (n < 0 ∨ 65535 < n)) = false → ∀ z ∈ l, z ≤ 9223372036854775807 := fun l h z hz => by
      rw [List.any_eq_false] at h
      have := h z hz
      simp only [decide_eq_true_eq] at this
      omega
    have n1 := r_nums v.plus (by have := hc.2.1; omega) (hb _ hc.2.2.2.1)
    have n2 := r_nums v.minus (by have := hc.2.2.1; omega) (hb _ hc.2.2.2.2)
    have z1 := cl_size2 ⟨#[]⟩ v.plus v.plus.length
    have z2 := cl_size2 ⟨#[]⟩ v.minus v.minus.length
    have e : datT v = cl ⟨#[]⟩ v.plus v.plus.length ++ cl ⟨#[]⟩ v.minus v.minus.length := by unfold datT; rw [if_neg hk1, if_pos k]
    rw [e]
    have h1 : (cl ⟨#[]⟩ v.plus v.plus.length).size + (cl ⟨#[]⟩ v.minus v.minus.length).size ≤ 9223372036854775807 := by
      have : (⟨#[]⟩ : ByteArray).size = 0 := rfl
      have := hc.2.1
      have := hc.2.2.1
      omega
    generalize cl ⟨#[]⟩ v.plus v.plus.length = a1 at *
    generalize cl ⟨#[]⟩ v.minus v.minus.length = a2 at *
    refine Fc.of_body tabOk q_ouroborosref07_data (by kernel_rfl) ((blwL_one (blw_val 0 v))) (rfl) ?_
    conv => whnf
    repeat' (first
      | (refine addSz h1 ?_; conv => whnf)
      | (refine bltG (by first | omega | (simp only [List.length_map] at *; omega)) ?_; conv => whnf)
      | (refine ndG (by assumption) ?_; conv => whnf)
      | (refine mulG ?_; conv => whnf)
      | (refine And.intro rfl ?_; conv => whnf)
      | (refine dsT (by assumption) ?_; conv => whnf)
      | (refine dsF (by assumption) ?_; conv => whnf)
      | (refine nsT (by assumption) ?_; conv => whnf)
      | (refine nsF (by assumption) ?_; conv => whnf)
      | (refine bsT (by assumption) ?_; conv => whnf)
      | (refine bsF (by assumption) ?_; conv => whnf)
      | (refine dsp ?_ ?_ <;> intro _ <;> conv => whnf)
      | (refine nsp ?_ ?_ <;> intro _ <;> conv => whnf)
      | (refine cnd_true (by assumption) ?_; conv => whnf)
      | (refine cnd_false (by assumption) ?_; conv => whnf)
      | (refine cnd_split ?_ ?_ <;> intro _ <;> conv => whnf)
      | (refine Cd.par tabOk (by kernel_rfl) (by kernel_rfl) ?_; conv => whnf)
      | (refine Fc.use (n1) ?_ ?_; (focus ((repeat' constructor); done)); conv => whnf)
      | (refine CallQ.of (n1) ?_ ?_; (focus ((repeat' constructor); done)); conv => whnf)
      | (refine Fc.use (n2) ?_ ?_; (focus ((repeat' constructor); done)); conv => whnf)
      | (refine CallQ.of (n2) ?_ ?_; (focus ((repeat' constructor); done)); conv => whnf))
    all_goals first | rfl | (repeat' constructor)
  · have hk1 : ¬ v.kind = 1 := by omega
    have hk2 : ¬ v.kind = 2 := by omega
    obtain ⟨f1, f2⟩ := fl1_eq hf
    obtain ⟨f3, f4⟩ := fl2_eq hf
    have hm := hf.1
    have hlt : v.flags.tmod 4294967296 < 4294967296 := Int.tmod_lt_of_pos _ (by omega)
    have n1 := r_num4 (fl1 v) (by omega)
    have n2 := r_num4 (fl2 v) (by omega)
    have z1 := num4_le (fl1 v)
    have z2 := num4_le (fl2 v)
    have e : datT v = num4 (fl1 v) ++ num4 (fl2 v) := by unfold datT; rw [if_neg hk1, if_neg hk2]
    rw [e]
    have h1 : (num4 (fl1 v)).size + (num4 (fl2 v)).size ≤ 9223372036854775807 := by omega
    generalize num4 (fl1 v) = a1 at *
    generalize num4 (fl2 v) = a2 at *
    rw [← f2] at n1
    rw [← f4] at n2
    refine Fc.of_body tabOk q_ouroborosref07_data (by kernel_rfl) ((blwL_one (blw_val 0 v))) (rfl) ?_
    conv => whnf
    repeat' (first
      | (refine addSz h1 ?_; conv => whnf)
      | (refine bltG (by first | omega | (simp only [List.length_map] at *; omega)) ?_; conv => whnf)
      | (refine ndG (by assumption) ?_; conv => whnf)
      | (refine mulG ?_; conv => whnf)
      | (refine And.intro rfl ?_; conv => whnf)
      | (refine dsT (by assumption) ?_; conv => whnf)
      | (refine dsF (by assumption) ?_; conv => whnf)
      | (refine nsT (by assumption) ?_; conv => whnf)
      | (refine nsF (by assumption) ?_; conv => whnf)
      | (refine bsT (by assumption) ?_; conv => whnf)
      | (refine bsF (by assumption) ?_; conv => whnf)
      | (refine dsp ?_ ?_ <;> intro _ <;> conv => whnf)
      | (refine nsp ?_ ?_ <;> intro _ <;> conv => whnf)
      | (refine cnd_true (by assumption) ?_; conv => whnf)
      | (refine cnd_false (by assumption) ?_; conv => whnf)
      | (refine cnd_split ?_ ?_ <;> intro _ <;> conv => whnf)
      | (refine Cd.par tabOk (by kernel_rfl) (by kernel_rfl) ?_; conv => whnf)
      | (refine Fc.use (n1) ?_ ?_; (focus ((repeat' constructor); done)); conv => whnf)
      | (refine CallQ.of (n1) ?_ ?_; (focus ((repeat' constructor); done)); conv => whnf)
      | (refine Fc.use (n2) ?_ ?_; (focus ((repeat' constructor); done)); conv => whnf)
      | (refine CallQ.of (n2) ?_ ?_; (focus ((repeat' constructor); done)); conv => whnf))
    all_goals first | rfl | (repeat' constructor)
theorem zeros_add (a b : Nat) : zeros a ++ zeros b = zeros (a + b) := ByteArray.ext (by simp [zeros, ByteArray.data_append])
theorem app_nil (s : ByteArray) : s ++ ⟨#[]⟩ = s := ByteArray.ext (by simp [ByteArray.data_append])
theorem dat_size {v : Val} (hv : valOk v) : (datT v).size ≤ 32 := by
  unfold datT
  rcases hv with ⟨k, hr⟩ | ⟨k, hc⟩ | ⟨k, hg⟩
  · have ht := hr.2.2.2.2.2.1
    have z1 := num4_le v.time
    have z2 := n1z v.node
    have z3 := n1z (if v.dead = true then 1 else 0)
    have z4 := n1z (v.text.size : Int)
    rw [if_pos k]
    simp only [ByteArray.size_append]; omega
  · have z1 := cl_size2 ⟨#[]⟩ v.plus v.plus.length
    have z2 := cl_size2 ⟨#[]⟩ v.minus v.minus.length
    have : (⟨#[]⟩ : ByteArray).size = 0 := rfl
    have := hc.2.1
    have := hc.2.2.1
    rw [if_neg (by omega), if_pos k]
    simp only [ByteArray.size_append]; omega
  · have z1 := num4_le (fl1 v)
    have z2 := num4_le (fl2 v)
    rw [if_neg (by omega), if_neg (by omega)]
    simp only [ByteArray.size_append]; omega
theorem entT_dat {e : Ent} (hv : valOk e.val) : entT e = num1 e.val.kind ++ num1 e.key.size ++ (e.key ++ zeros (8 - e.key.size)) ++ (datT e.val ++ zeros (32 - (datT e.val).size)) := by
  have hd := dat_size hv
  have key : ∀ (b : ByteArray) (j : Nat), bodyT e = headT e ++ (b ++ zeros j) → datT e.val = b → b.size + j ≤ 32 → entT e = headT e ++ (datT e.val ++ zeros (32 - (datT e.val).size)) := by
    intro b j h1 h2 h3
    unfold entT
    rw [h1, h2, app_nil, ByteArray.append_assoc, ByteArray.append_assoc, zeros_add]
    congr 3
    simp only [ByteArray.size_append, zeros_size]
    omega
  have e0 : headT e = num1 e.val.kind ++ num1 e.key.size ++ (e.key ++ zeros (8 - e.key.size)) := by unfold headT; simp only [ByteArray.append_assoc]
  rw [← e0]
  rcases hv with ⟨k, hr⟩ | ⟨k, hc⟩ | ⟨k, hg⟩
  · have ht := hr.2.2.2.2.2.1
    have z1 := num4_le e.val.time
    have z2 := n1z e.val.node
    have z3 := n1z (if e.val.dead = true then 1 else 0)
    have z4 := n1z (e.val.text.size : Int)
    refine key _ (8 - e.val.text.size) ?_ (if_pos k) ?_
    · unfold bodyT regT
      rw [if_pos k]
      simp only [ByteArray.append_assoc]
    · simp only [ByteArray.size_append]; omega
  · refine key (cl ⟨#[]⟩ e.val.plus e.val.plus.length ++ cl ⟨#[]⟩ e.val.minus e.val.minus.length) 0 ?_ ?_ ?_
    · unfold bodyT cntT
      rw [if_neg (by omega), if_pos k, cl_app (cl (headT e) e.val.plus e.val.plus.length), cl_app (headT e), ByteArray.append_assoc]
      rw [show zeros 0 = ⟨#[]⟩ from rfl, app_nil]
    · unfold datT; rw [if_neg (by omega), if_pos k]
    · unfold datT at hd; rw [if_neg (by omega), if_pos k] at hd; omega
  · refine key (num4 (fl1 e.val) ++ num4 (fl2 e.val)) 0 ?_ ?_ ?_
    · unfold bodyT flagT
      rw [if_neg (by omega), if_neg (by omega), ByteArray.append_assoc, show zeros 0 = ⟨#[]⟩ from rfl, app_nil]
    · unfold datT; rw [if_neg (by omega), if_neg (by omega)]
    · unfold datT at hd; rw [if_neg (by omega), if_neg (by omega)] at hd; omega
theorem r_ent_Put (e : Ent) (he : e.bd) (hf : e.fw) : Fc Tryz.prog n_ouroborosref07_Put [e.sv] (.tup [ss (if entOk e then entT e else ⟨#[]⟩), iv (if entOk e then 0 else 2)]) := by
  have hc := r_ent_Check e he
  by_cases hok : entOk e
  · rw [if_pos hok, if_pos hok, entT_dat hok.2.2]
    rw [decide_eq_true hok] at hc
    have hks := hok.2.1
    have hkd : 1 ≤ e.val.kind ∧ e.val.kind ≤ 3 := by rcases hok.2.2 with h | h | h <;> omega
    have n1 := r_num1 e.val.kind (by omega)
    have n2 := r_num1 (e.key.size : Int) (by omega)
    have n3 := r_pad e.key 8 (8 - e.key.size) hks (by omega) rfl
    have n4 := r_data e.val hok.2.2 hf
    have hds := dat_size hok.2.2
    have n5 := r_pad (datT e.val) 32 (32 - (datT e.val).size) hds (by omega) rfl
    have z1 := n1z e.val.kind
    have z2 := n1z (e.key.size : Int)
    have h1 : (num1 e.val.kind).size + (num1 (e.key.size : Int)).size ≤ 9223372036854775807 := by omega
    have h2 : (num1 e.val.kind ++ num1 (e.key.size : Int)).size + (e.key ++ zeros (8 - e.key.size)).size ≤ 9223372036854775807 := by simp only [ByteArray.size_append, zeros_size]; omega
    have h3 : (num1 e.val.kind ++ num1 (e.key.size : Int) ++ (e.key ++ zeros (8 - e.key.size))).size + (datT e.val ++ zeros (32 - (datT e.val).size)).size ≤ 9223372036854775807 := by simp only [ByteArray.size_append, zeros_size]; omega
    generalize e.key ++ zeros (8 - e.key.size) = kz at *
    generalize datT e.val ++ zeros (32 - (datT e.val).size) = dz at *
    generalize datT e.val = dv at *
    generalize num1 e.val.kind = a1 at *
    generalize num1 (e.key.size : Int) = a2 at *
    refine Fc.of_body tabOk q_ouroborosref07_Put (by kernel_rfl) ((blwL_one (blw_ent 0 e))) (rfl) ?_
    conv => whnf
    repeat' (first
      | (refine addSz h3 ?_; conv => whnf)
      | (refine addSz h2 ?_; conv => whnf)
      | (refine addSz h1 ?_; conv => whnf)
      | (refine bltG (by first | omega | (simp only [List.length_map] at *; omega)) ?_; conv => whnf)
      | (refine ndG (by assumption) ?_; conv => whnf)
      | (refine mulG ?_; conv => whnf)
      | (refine And.intro rfl ?_; conv => whnf)
      | (refine dsT (by assumption) ?_; conv => whnf)
      | (refine dsF (by assumption) ?_; conv => whnf)
      | (refine nsT (by assumption) ?_; conv => whnf)
      | (refine nsF (by assumption) ?_; conv => whnf)
      | (refine bsT (by assumption) ?_; conv => whnf)
      | (refine bsF (by assumption) ?_; conv => whnf)
      | (refine dsp ?_ ?_ <;> intro _ <;> conv => whnf)
      | (refine nsp ?_ ?_ <;> intro _ <;> conv => whnf)
      | (refine cnd_true (by assumption) ?_; conv => whnf)
      | (refine cnd_false (by assumption) ?_; conv => whnf)
      | (refine cnd_split ?_ ?_ <;> intro _ <;> conv => whnf)
      | (refine Cd.par tabOk (by kernel_rfl) (by kernel_rfl) ?_; conv => whnf)
      | (refine Fc.use (hc) ?_ ?_; (focus ((repeat' constructor); done)); conv => whnf)
      | (refine CallQ.of (hc) ?_ ?_; (focus ((repeat' constructor); done)); conv => whnf)
      | (refine Fc.use (n1) ?_ ?_; (focus ((repeat' constructor); done)); conv => whnf)
      | (refine CallQ.of (n1) ?_ ?_; (focus ((repeat' constructor); done)); conv => whnf)
      | (refine Fc.use (n2) ?_ ?_; (focus ((repeat' constructor); done)); conv => whnf)
      | (refine CallQ.of (n2) ?_ ?_; (focus ((repeat' constructor); done)); conv => whnf)
      | (refine Fc.use (n3) ?_ ?_; (focus ((repeat' constructor); done)); conv => whnf)
      | (refine CallQ.of (n3) ?_ ?_; (focus ((repeat' constructor); done)); conv => whnf)
      | (refine Fc.use (n4) ?_ ?_; (focus ((repeat' constructor); done)); conv => whnf)
      | (refine CallQ.of (n4) ?_ ?_; (focus ((repeat' constructor); done)); conv => whnf)
      | (refine Fc.use (n5) ?_ ?_; (focus ((repeat' constructor); done)); conv => whnf)
      | (refine CallQ.of (n5) ?_ ?_; (focus ((repeat' constructor); done)); conv => whnf))
    all_goals first | rfl | (repeat' constructor)
  · rw [if_neg hok, if_neg hok]
    rw [decide_eq_false hok] at hc
    refine Fc.of_body tabOk q_ouroborosref07_Put (by kernel_rfl) ((blwL_one (blw_ent 0 e))) (rfl) ?_
    conv => whnf
    repeat' (first
      | (refine bltG (by first | omega | (simp only [List.length_map] at *; omega)) ?_; conv => whnf)
      | (refine ndG (by assumption) ?_; conv => whnf)
      | (refine mulG ?_; conv => whnf)
      | (refine And.intro rfl ?_; conv => whnf)
      | (refine dsT (by assumption) ?_; conv => whnf)
      | (refine dsF (by assumption) ?_; conv => whnf)
      | (refine nsT (by assumption) ?_; conv => whnf)
      | (refine nsF (by assumption) ?_; conv => whnf)
      | (refine bsT (by assumption) ?_; conv => whnf)
      | (refine bsF (by assumption) ?_; conv => whnf)
      | (refine dsp ?_ ?_ <;> intro _ <;> conv => whnf)
      | (refine nsp ?_ ?_ <;> intro _ <;> conv => whnf)
      | (refine cnd_true (by assumption) ?_; conv => whnf)
      | (refine cnd_false (by assumption) ?_; conv => whnf)
      | (refine cnd_split ?_ ?_ <;> intro _ <;> conv => whnf)
      | (refine Cd.par tabOk (by kernel_rfl) (by kernel_rfl) ?_; conv => whnf)
      | (refine Fc.use (hc) ?_ ?_; (focus ((repeat' constructor); done)); conv => whnf)
      | (refine CallQ.of (hc) ?_ ?_; (focus ((repeat' constructor); done)); conv => whnf))
    all_goals first | rfl | (repeat' constructor)
end Go.Proofs.YtmjpidjdbofdjaaGreat

