import Derived.Test.YtmjpidjdbofdjaaGreatRa
/- The reference's sum: bit by bit; it is the sum by table. -/
set_option linter.unusedVariables false
set_option linter.unusedSimpArgs false
set_option maxRecDepth 100000
set_option maxHeartbeats 1600000
namespace Go.Proofs.YtmjpidjdbofdjaaGreat
open Go Go.Sy
/-- Behind a bit. -/
def stK (n b : Int) : Int := if n.tmod 2 ≠ b then bitI .xor .u32 (IntKind.wrap .u32 (n.tdiv 2)) 3988292384 else IntKind.wrap .u32 (n.tdiv 2)
theorem r_step (n b : Int) : Fc Tryz.prog n_ouroborosref02_step [u32v n, u32v b] (u32v (stK n b)) := by
  refine Fc.of_body tabOk q_ouroborosref02_step (by kernel_rfl) (rfl) (rfl) ?_
  conv => whnf
  repeat' (first
    | (refine bltG (by first | omega | (simp only [List.length_map] at *; omega)) ?_; conv => whnf)
    | (refine ndG (by assumption) ?_; conv => whnf)
    | (refine mulG ?_; conv => whnf)
    | (refine And.intro rfl ?_; conv => whnf)
    | (refine dsT (by assumption) ?_; conv => whnf)
    | (refine dsF (by assumption) ?_; conv => whnf)
    | (refine nsT (by assumption) ?_; conv => whnf)
    | (refine nsF (by assumption) ?_; conv => whnf)
    | (refine bsT (by assumption) ?_; conv => whnf)
    | (refine bsF (by assumption) ?_; conv => whnf)
    | (refine dsp ?_ ?_ <;> intro _ <;> conv => whnf)
    | (refine nsp ?_ ?_ <;> intro _ <;> conv => whnf)
    | (refine cnd_true (by assumption) ?_; conv => whnf)
    | (refine cnd_false (by assumption) ?_; conv => whnf)
    | (refine cnd_split ?_ ?_ <;> intro _ <;> conv => whnf)
    | (refine Cd.par tabOk (by kernel_rfl) (by kernel_rfl) ?_; conv => whnf))
  · rw [show stK n b = _ from if_pos ‹_›]; rfl
  · rw [show stK n b = _ from if_neg (by simpa using ‹_›)]; rfl
/-- Behind so many bits. -/
def itK (n c : Int) : Nat → Int × Int
  | 0 => (n, c)
  | k + 1 => (stK (itK n c k).1 ((itK n c k).2.tmod 2), IntKind.wrap .u32 ((itK n c k).2.tdiv 2))
def crcK (n : Int) (s : ByteArray) : Nat → Int
  | 0 => n
  | i + 1 => (itK (crcK n s i) (IntKind.wrap .u32 (bt s i)) 8).1
theorem r_on (n : Int) (s : ByteArray) (hs : s.size < 2 ^ 40) : Fc Tryz.prog n_ouroborosref02_on [u32v n, ss s] (u32v (crcK n s s.size)) := by
  refine Fc.of_body tabOk q_ouroborosref02_on (by kernel_rfl) (rfl) (rfl) ?_
  conv => whnf
  refine loopP tabOk (fun i : Nat => i ≤ s.size) (fun i => ⟨[(5, iv i), (0, u32v (crcK n s i)), (1, ss s)], []⟩) (fun i => ⟨0, [], []⟩) (fun i => s.size - i) 0 (Nat.zero_le _) (by repeat' constructor) (fun _ => rfl) ?_
  intro i hi
  conv => whnf
  refine dsp ?_ ?_ <;> intro hlt <;> conv => whnf
  · have hlt' : i < s.size := by omega
    repeat' (first
      | (refine bltG (by first | omega | (simp only [List.length_map] at *; omega)) ?_; conv => whnf)
      | (refine ndG (by assumption) ?_; conv => whnf)
      | (refine mulG ?_; conv => whnf)
      | (refine And.intro rfl ?_; conv => whnf)
      | (refine dsT (by assumption) ?_; conv => whnf)
      | (refine dsF (by assumption) ?_; conv => whnf)
      | (refine nsT (by assumption) ?_; conv => whnf)
      | (refine nsF (by assumption) ?_; conv => whnf)
      | (refine bsT (by assumption) ?_; conv => whnf)
      | (refine bsF (by assumption) ?_; conv => whnf)
      | (refine dsp ?_ ?_ <;> intro _ <;> conv => whnf)
      | (refine nsp ?_ ?_ <;> intro _ <;> conv => whnf)
      | (refine cnd_true (by assumption) ?_; conv => whnf)
      | (refine cnd_false (by assumption) ?_; conv => whnf)
      | (refine cnd_split ?_ ?_ <;> intro _ <;> conv => whnf)
      | (refine Cd.par tabOk (by kernel_rfl) (by kernel_rfl) ?_; conv => whnf))
    refine loopP tabOk (fun k : Nat => k ≤ 8) (fun k => ⟨[(7, iv k), (6, u32v (itK (crcK n s i) (IntKind.wrap .u32 (bt s i)) k).2), (5, iv i), (0, u32v (itK (crcK n s i) (IntKind.wrap .u32 (bt s i)) k).1), (1, ss s)], []⟩) (fun k => ⟨0, [], []⟩) (fun k => 8 - k) 0 (Nat.zero_le _) (by repeat' constructor) (fun _ => rfl) ?_
    intro k hk
    conv => whnf
    refine dsp ?_ ?_ <;> intro hk8 <;> conv => whnf
    · have h1 := r_step (itK (crcK n s i) (IntKind.wrap .u32 (bt s i)) k).1 ((itK (crcK n s i) (IntKind.wrap .u32 (bt s i)) k).2.tmod 2)
      repeat' (first
        | (refine bltG (by first | omega | (simp only [List.length_map] at *; omega)) ?_; conv => whnf)
        | (refine ndG (by assumption) ?_; conv => whnf)
        | (refine mulG ?_; conv => whnf)
        | (refine And.intro rfl ?_; conv => whnf)
        | (refine dsT (by assumption) ?_; conv => whnf)
        | (refine dsF (by assumption) ?_; conv => whnf)
        | (refine nsT (by assumption) ?_; conv => whnf)
        | (refine nsF (by assumption) ?_; conv => whnf)
        | (refine bsT (by assumption) ?_; conv => whnf)
        | (refine bsF (by assumption) ?_; conv => whnf)
        | (refine dsp ?_ ?_ <;> intro _ <;> conv => whnf)
        | (refine nsp ?_ ?_ <;> intro _ <;> conv => whnf)
        | (refine cnd_true (by assumption) ?_; conv => whnf)
        | (refine cnd_false (by assumption) ?_; conv => whnf)
        | (refine cnd_split ?_ ?_ <;> intro _ <;> conv => whnf)
        | (refine Cd.par tabOk (by kernel_rfl) (by kernel_rfl) ?_; conv => whnf)
        | (refine Fc.use (h1) ?_ ?_; (focus ((repeat' constructor); done)); conv => whnf)
        | (refine CallQ.of (h1) ?_ ?_; (focus ((repeat' constructor); done)); conv => whnf))
      refine ⟨k + 1, by omega, ?_, ?_⟩
      · first | omega | (simp only [List.length_map] at *; omega)
      · (repeat' constructor) <;> first | (refine ivW ?_ ?_ ?_ <;> first | omega | (dsimp only; omega))
    · obtain rfl : k = 8 := by omega
      repeat' (first
        | (refine bltG (by first | omega | (simp only [List.length_map] at *; omega)) ?_; conv => whnf)
        | (refine ndG (by assumption) ?_; conv => whnf)
        | (refine mulG ?_; conv => whnf)
        | (refine And.intro rfl ?_; conv => whnf)
        | (refine dsT (by assumption) ?_; conv => whnf)
        | (refine dsF (by assumption) ?_; conv => whnf)
        | (refine nsT (by assumption) ?_; conv => whnf)
        | (refine nsF (by assumption) ?_; conv => whnf)
        | (refine bsT (by assumption) ?_; conv => whnf)
        | (refine bsF (by assumption) ?_; conv => whnf)
        | (refine dsp ?_ ?_ <;> intro _ <;> conv => whnf)
        | (refine nsp ?_ ?_ <;> intro _ <;> conv => whnf)
        | (refine cnd_true (by assumption) ?_; conv => whnf)
        | (refine cnd_false (by assumption) ?_; conv => whnf)
        | (refine cnd_split ?_ ?_ <;> intro _ <;> conv => whnf)
        | (refine Cd.par tabOk (by kernel_rfl) (by kernel_rfl) ?_; conv => whnf))
      refine ⟨i + 1, by omega, ?_, ?_⟩
      · first | omega | (simp only [List.length_map] at *; omega)
      · (repeat' constructor) <;> first | (refine ivW ?_ ?_ ?_ <;> first | omega | (dsimp only; omega))
  · obtain rfl : i = s.size := by omega
    repeat' (first
      | (refine bltG (by first | omega | (simp only [List.length_map] at *; omega)) ?_; conv => whnf)
      | (refine ndG (by assumption) ?_; conv => whnf)
      | (refine mulG ?_; conv => whnf)
      | (refine And.intro rfl ?_; conv => whnf)
      | (refine dsT (by assumption) ?_; conv => whnf)
      | (refine dsF (by assumption) ?_; conv => whnf)
      | (refine nsT (by assumption) ?_; conv => whnf)
      | (refine nsF (by assumption) ?_; conv => whnf)
      | (refine bsT (by assumption) ?_; conv => whnf)
      | (refine bsF (by assumption) ?_; conv => whnf)
      | (refine dsp ?_ ?_ <;> intro _ <;> conv => whnf)
      | (refine nsp ?_ ?_ <;> intro _ <;> conv => whnf)
      | (refine cnd_true (by assumption) ?_; conv => whnf)
      | (refine cnd_false (by assumption) ?_; conv => whnf)
      | (refine cnd_split ?_ ?_ <;> intro _ <;> conv => whnf)
      | (refine Cd.par tabOk (by kernel_rfl) (by kernel_rfl) ?_; conv => whnf))
    all_goals rfl
/-! ### The same sum -/
def polyV : BitVec 32 := 3988292384#32
def stV (x : BitVec 32) (b : Bool) : BitVec 32 := (x >>> 1) ^^^ (if x.getLsbD 0 = b then 0#32 else polyV)
theorem stV_lin (x y : BitVec 32) (b : Bool) (h : y.getLsbD 0 = false) : stV (x ^^^ y) b = stV x b ^^^ (y >>> 1) := by
  unfold stV
  rw [BitVec.getLsbD_xor, h, Bool.xor_false, BitVec.ushiftRight_xor_distrib]
  ac_rfl
def st4 (x : BitVec 32) (b0 b1 b2 b3 : Bool) : BitVec 32 := stV (stV (stV (stV x b0) b1) b2) b3
theorem st4_lin (x y : BitVec 32) (b0 b1 b2 b3 : Bool) (h : ∀ i, i < 4 → y.getLsbD i = false) : st4 (x ^^^ y) b0 b1 b2 b3 = st4 x b0 b1 b2 b3 ^^^ (y >>> 4) := by
  unfold st4
  rw [stV_lin _ _ _ (h 0 (by omega)), stV_lin, stV_lin, stV_lin]
  · congr 1
  · rw [BitVec.getLsbD_ushiftRight, BitVec.getLsbD_ushiftRight, BitVec.getLsbD_ushiftRight]; exact h 3 (by omega)
  · rw [BitVec.getLsbD_ushiftRight, BitVec.getLsbD_ushiftRight]; exact h 2 (by omega)
  · rw [BitVec.getLsbD_ushiftRight]; exact h 1 (by omega)
def nibN (b0 b1 b2 b3 : Bool) : Nat := b0.toNat + 2 * b1.toNat + 4 * b2.toNat + 8 * b3.toNat
theorem st4_low : ∀ (r : Fin 16) (b0 b1 b2 b3 : Bool), st4 (BitVec.ofNat 32 r.1) b0 b1 b2 b3 = BitVec.ofInt 32 (R16.getD (r.1 ^^^ nibN b0 b1 b2 b3) 0) := by
  decide +kernel
theorem low_hi (x : BitVec 32) : x = (x &&& 15#32) ^^^ (x &&& ~~~15#32) := by
  apply BitVec.eq_of_getLsbD_eq
  intro i hi
  rw [BitVec.getLsbD_xor, BitVec.getLsbD_and, BitVec.getLsbD_and, BitVec.getLsbD_not]
  simp only [hi, decide_true, Bool.true_and]
  cases x.getLsbD i <;> cases (15#32).getLsbD i <;> rfl
theorem hi_lo : ∀ i : Fin 4, (~~~15#32 : BitVec 32).getLsbD i.1 = false := by decide +kernel
theorem hi_hi : ∀ i : Fin 28, (~~~15#32 : BitVec 32).getLsbD (4 + i.1) = true := by decide +kernel
theorem st4_eq (x : BitVec 32) (b0 b1 b2 b3 : Bool) : st4 x b0 b1 b2 b3 = BitVec.ofInt 32 (R16.getD ((x &&& 15#32).toNat ^^^ nibN b0 b1 b2 b3) 0) ^^^ (x >>> 4) := by
  have hl : (x &&& 15#32).toNat < 16 := by
    rw [BitVec.toNat_and]
    exact Nat.lt_of_le_of_lt Nat.and_le_right (by decide)
  have e1 := st4_lin (x &&& 15#32) (x &&& ~~~15#32) b0 b1 b2 b3 fun i hi => by
    rw [BitVec.getLsbD_and, hi_lo ⟨i, hi⟩, Bool.and_false]
  rw [← low_hi] at e1
  rw [e1]
  have e2 := st4_low ⟨_, hl⟩ b0 b1 b2 b3
  simp only [BitVec.ofNat_toNat, BitVec.setWidth_eq] at e2
  rw [e2]
  congr 1
  apply BitVec.eq_of_getLsbD_eq
  intro i hi
  rw [BitVec.getLsbD_ushiftRight, BitVec.getLsbD_ushiftRight, BitVec.getLsbD_and]
  by_cases h : i < 28
  · rw [hi_hi ⟨i, h⟩, Bool.and_true]
  · rw [BitVec.getLsbD_of_ge x (4 + i) (by omega), Bool.false_and]
theorem u32_nat (x : BitVec 32) : IntKind.wrap .u32 ((x.toNat : Nat) : Int) = x.toNat := by
  have := x.isLt
  rw [IntKind.wrap_u32]; omega
theorem xor_u32 (x y : BitVec 32) : bitI .xor .u32 (x.toNat : Int) (y.toNat : Int) = ((x ^^^ y).toNat : Int) := by
  have e : bitI .xor .u32 (x.toNat : Int) (y.toNat : Int) = IntKind.wrap .u32 (((BitVec.ofInt 32 (x.toNat : Int) ^^^ BitVec.ofInt 32 (y.toNat : Int)).toNat : Nat) : Int) := rfl
  rw [e, u32_nat, BitVec.ofInt_natCast, BitVec.ofInt_natCast, BitVec.ofNat_toNat, BitVec.ofNat_toNat, BitVec.setWidth_eq, BitVec.setWidth_eq]
theorem and_u32 (x y : BitVec 32) : bitI .and .u32 (x.toNat : Int) (y.toNat : Int) = ((x &&& y).toNat : Int) := by
  have e : bitI .and .u32 (x.toNat : Int) (y.toNat : Int) = IntKind.wrap .u32 (((BitVec.ofInt 32 (x.toNat : Int) &&& BitVec.ofInt 32 (y.toNat : Int)).toNat : Nat) : Int) := rfl
  rw [e, u32_nat, BitVec.ofInt_natCast, BitVec.ofInt_natCast, BitVec.ofNat_toNat, BitVec.ofNat_toNat, BitVec.setWidth_eq, BitVec.setWidth_eq]
theorem stK_V (x : BitVec 32) (b : Bool) : stK (x.toNat : Int) (b.toNat : Int) = ((stV x b).toNat : Int) := by
  have h2 : ((x.toNat : Nat) : Int).tdiv 2 = ((x >>> 1).toNat : Int) := by
    rw [BitVec.toNat_ushiftRight, Nat.shiftRight_eq_div_pow]
    rfl
  have hb : (((x.toNat : Nat) : Int).tmod 2 ≠ (b.toNat : Int)) ↔ ¬ x.getLsbD 0 = b := by
    have : x.getLsbD 0 = decide (x.toNat % 2 = 1) := Nat.testBit_zero _
    rw [this]
    have hm : ((x.toNat : Nat) : Int).tmod 2 = ((x.toNat % 2 : Nat) : Int) := by
      rw [Int.tmod_eq_emod_of_nonneg (by omega)]; omega
    rw [hm]
    rcases Nat.mod_two_eq_zero_or_one x.toNat with h | h <;> cases b <;> simp [h]
  unfold stK stV
  rw [h2, u32_nat]
  by_cases h : x.getLsbD 0 = b
  · rw [if_neg (fun q => hb.1 q h), if_pos h, BitVec.xor_zero]
  · rw [if_pos (hb.2 h), if_neg h, show (3988292384 : Int) = (polyV.toNat : Int) from rfl, xor_u32]
def itV (x : BitVec 32) (c : Nat) : Nat → BitVec 32
  | 0 => x
  | k + 1 => stV (itV x c k) (decide (c / 2 ^ k % 2 = 1))
theorem itK_V (x : BitVec 32) (c : Nat) (hc : c < 256) : ∀ k, itK (x.toNat : Int) (c : Int) k = (((itV x c k).toNat : Int), ((c / 2 ^ k : Nat) : Int))
  | 0 => by simp [itK, itV]
  | k + 1 => by
    have ih := itK_V x c hc k
    have hle : c / 2 ^ k ≤ c := Nat.div_le_self ..
    have hq : c / 2 ^ (k + 1) = c / 2 ^ k / 2 := by rw [Nat.pow_succ, Nat.div_div_eq_div_mul]
    unfold itK itV
    rw [ih]
    simp only
    generalize c / 2 ^ k = d at *
    have hd : ((d : Nat) : Int).tmod 2 = ((decide (d % 2 = 1)).toNat : Int) := by
      rw [Int.tmod_eq_emod_of_nonneg (by omega)]
      rcases Nat.mod_two_eq_zero_or_one d with h | h <;> simp [h] <;> omega
    rw [hd, stK_V]
    have ht : ((d : Nat) : Int).tdiv 2 = ((d / 2 : Nat) : Int) := by rw [Int.tdiv_eq_ediv_of_nonneg (by omega)]; omega
    rw [ht, hq, show IntKind.wrap .u32 ((d / 2 : Nat) : Int) = ((d / 2 : Nat) : Int) by rw [IntKind.wrap_u32]; omega]
theorem nib_lo : ∀ c : Fin 256, nibN (decide (c.1 / 2 ^ 0 % 2 = 1)) (decide (c.1 / 2 ^ 1 % 2 = 1)) (decide (c.1 / 2 ^ 2 % 2 = 1)) (decide (c.1 / 2 ^ 3 % 2 = 1)) = c.1 % 16 ∧ nibN (decide (c.1 / 2 ^ 4 % 2 = 1)) (decide (c.1 / 2 ^ 5 % 2 = 1)) (decide (c.1 / 2 ^ 6 % 2 = 1)) (decide (c.1 / 2 ^ 7 % 2 = 1)) = c.1 / 16 ∧ bitI .and .u8 (c.1 : Int) 15 = ((c.1 % 16 : Nat) : Int) ∧ ((c.1 : Nat) : Int).fdiv (2 ^ (min 4 IntKind.u8.bits)) = ((c.1 / 16 : Nat) : Int) := by
  decide +kernel
theorem p15 : ∀ p : Fin 16, BitVec.ofNat 32 p.1 &&& 15#32 = BitVec.ofNat 32 p.1 ∧ (BitVec.ofNat 32 p.1).toNat = p.1 := by decide +kernel
theorem xor_and15 (x y : BitVec 32) : (x ^^^ y) &&& 15#32 = (x &&& 15#32) ^^^ (y &&& 15#32) := by
  apply BitVec.eq_of_getLsbD_eq
  intro i hi
  rw [BitVec.getLsbD_xor, BitVec.getLsbD_and, BitVec.getLsbD_and, BitVec.getLsbD_and, BitVec.getLsbD_xor]
  cases x.getLsbD i <;> cases y.getLsbD i <;> cases (15#32).getLsbD i <;> rfl
theorem ixN_V (x : BitVec 32) (p : Nat) (hp : p < 16) : (ixN (x.toNat : Int) (p : Int)).toNat = (x &&& 15#32).toNat ^^^ p := by
  obtain ⟨h1, h2⟩ := p15 ⟨p, hp⟩
  simp only at h1 h2
  unfold ixN
  have e : IntKind.wrap .u32 ((p : Nat) : Int) = ((BitVec.ofNat 32 p).toNat : Int) := by rw [h2, IntKind.wrap_u32]; omega
  rw [e, xor_u32, show (15 : Int) = ((15#32 : BitVec 32).toNat : Int) from rfl, and_u32, Int.toNat_natCast]
  rw [xor_and15, h1, BitVec.toNat_xor, h2]
theorem r16_bd : ∀ k : Fin 16, (R16.getD k.1 0) = ((BitVec.ofInt 32 (R16.getD k.1 0)).toNat : Int) := by decide +kernel
theorem stN_V (x : BitVec 32) (p : Nat) (hp : p < 16) : stN (x.toNat : Int) (p : Int) = ((BitVec.ofInt 32 (R16.getD ((x &&& 15#32).toNat ^^^ p) 0) ^^^ (x >>> 4)).toNat : Int) := by
  have hl : (x &&& 15#32).toNat < 16 := by
    rw [BitVec.toNat_and]
    exact Nat.lt_of_le_of_lt Nat.and_le_right (by decide)
  have hx : (x &&& 15#32).toNat ^^^ p < 16 := Nat.xor_lt_two_pow (n := 4) hl hp
  have hz := r16_bd ⟨_, hx⟩
  simp only at hz
  unfold stN
  rw [ixN_V x p hp]
  generalize R16.getD ((x &&& 15#32).toNat ^^^ p) 0 = z at *
  have hs : ((x.toNat : Nat) : Int).fdiv (2 ^ (min 4 IntKind.u32.bits)) = ((x >>> 4).toNat : Int) := by
    rw [BitVec.toNat_ushiftRight, Nat.shiftRight_eq_div_pow, show (2 : Int) ^ (min 4 IntKind.u32.bits) = 16 from rfl, Int.fdiv_eq_ediv_of_nonneg _ (by omega)]
    rfl
  rw [hs]
  exact (congrArg (fun q => bitI .xor .u32 q ((x >>> 4).toNat : Int)) hz).trans (xor_u32 _ _)
theorem it8 (x : BitVec 32) (c : Nat) (hc : c < 256) : ((itV x c 8).toNat : Int) = stB (x.toNat : Int) (c : Int) := by
  obtain ⟨h1, h2, h3, h4⟩ := nib_lo ⟨c, hc⟩
  simp only at h1 h2 h3 h4
  unfold stB
  rw [h3, h4, stN_V x _ (Nat.mod_lt _ (by omega)), stN_V _ _ (by omega)]
  have e : itV x c 8 = st4 (st4 x (decide (c / 2 ^ 0 % 2 = 1)) (decide (c / 2 ^ 1 % 2 = 1)) (decide (c / 2 ^ 2 % 2 = 1)) (decide (c / 2 ^ 3 % 2 = 1))) (decide (c / 2 ^ 4 % 2 = 1)) (decide (c / 2 ^ 5 % 2 = 1)) (decide (c / 2 ^ 6 % 2 = 1)) (decide (c / 2 ^ 7 % 2 = 1)) := rfl
  rw [e, st4_eq, st4_eq, h1, h2]
theorem bt_nat (s : ByteArray) (i : Nat) : ∃ c : Nat, bt s i = c ∧ c < 256 := ⟨((s.data[i]?).getD 0).toNat, rfl, ((s.data[i]?).getD 0).toNat_lt⟩
theorem crcK_V (s : ByteArray) (x : BitVec 32) : ∀ i, ∃ y : BitVec 32, crcK (x.toNat : Int) s i = (y.toNat : Int) ∧ crcI (x.toNat : Int) s i = (y.toNat : Int)
  | 0 => ⟨x, rfl, rfl⟩
  | i + 1 => by
    obtain ⟨y, h1, h2⟩ := crcK_V s x i
    obtain ⟨c, hc, hc2⟩ := bt_nat s i
    refine ⟨itV y c 8, ?_, ?_⟩
    · unfold crcK
      rw [h1, hc, show IntKind.wrap .u32 ((c : Nat) : Int) = (c : Int) by rw [IntKind.wrap_u32]; omega, itK_V y c hc2]
    · unfold crcI
      rw [h2, hc, it8 y c hc2]
theorem r_Sum (s : ByteArray) (hs : s.size < 2 ^ 40) : Fc Tryz.prog n_ouroborosref02_Sum [ss s] (iv (crcS s)) := by
  have h := r_on 4294967295 s hs
  obtain ⟨y, h1, h2⟩ := crcK_V s 4294967295#32 s.size
  have e : crcK 4294967295 s s.size = crcI 4294967295 s s.size := by
    rw [show (4294967295 : Int) = ((4294967295#32 : BitVec 32).toNat : Int) from rfl, h1, h2]
  rw [e] at h
  have e2 : crcS s = IntKind.wrap .i64 (bitI .xor .u32 (crcI 4294967295 s s.size) 4294967295) := by
    unfold crcS
    rw [show IntKind.u32.max = ((4294967295#32 : BitVec 32).toNat : Int) from rfl, show (4294967295 : Int) = ((4294967295#32 : BitVec 32).toNat : Int) from rfl, h2, xor_u32, xor_u32, BitVec.xor_comm]
  rw [e2]
  generalize crcI 4294967295 s s.size = z at *
  refine Fc.of_body tabOk q_ouroborosref02_Sum (by kernel_rfl) (rfl) (rfl) ?_
  conv => whnf
  repeat' (first
    | (refine bltG (by first | omega | (simp only [List.length_map] at *; omega)) ?_; conv => whnf)
    | (refine ndG (by assumption) ?_; conv => whnf)
    | (refine mulG ?_; conv => whnf)
    | (refine And.intro rfl ?_; conv => whnf)
    | (refine dsT (by assumption) ?_; conv => whnf)
    | (refine dsF (by assumption) ?_; conv => whnf)
    | (refine nsT (by assumption) ?_; conv => whnf)
    | (refine nsF (by assumption) ?_; conv => whnf)
    | (refine bsT (by assumption) ?_; conv => whnf)
    | (refine bsF (by assumption) ?_; conv => whnf)
    | (refine dsp ?_ ?_ <;> intro _ <;> conv => whnf)
    | (refine nsp ?_ ?_ <;> intro _ <;> conv => whnf)
    | (refine cnd_true (by assumption) ?_; conv => whnf)
    | (refine cnd_false (by assumption) ?_; conv => whnf)
    | (refine cnd_split ?_ ?_ <;> intro _ <;> conv => whnf)
    | (refine Cd.par tabOk (by kernel_rfl) (by kernel_rfl) ?_; conv => whnf)
    | (refine Fc.use (h) ?_ ?_; (focus ((repeat' constructor); done)); conv => whnf)
    | (refine CallQ.of (h) ?_ ?_; (focus ((repeat' constructor); done)); conv => whnf))
  rfl
end Go.Proofs.YtmjpidjdbofdjaaGreat

