import Derived.Test.YtmjpidjdbofdjaaGreatPa
/- Contracts: values and entries that come together; arena.Find. -/
set_option linter.unusedVariables false
set_option linter.unusedSimpArgs false
/- Contracts: values that come together. -/
set_option maxRecDepth 100000
set_option maxHeartbeats 1600000
namespace Go.Proofs.YtmjpidjdbofdjaaGreat
open Go Go.Sy
theorem c_Clone_int (l : List Int) (h : l.length < 2 ^ 40) : Fc Tryz.prog n_slices_Clone_Lint_int [ints l] (ints l) := by
  have hm : 2 ^ 40 * 8 ≤ 140737488355328 := by decide
  have hm2 : 2 ^ 40 ≤ maxLen := by decide
  refine Fc.of_body tabOk q_slices_Clone_Lint_int (by kernel_rfl) ((blwL_one (blw_ints 0 l))) ((blw_ints 0 l)) ?_
  conv => whnf
  intro b hb
  conv => whnf
  cases l with
  | nil =>
    cases b
    · conv => whnf
      refine And.intro rfl ?_
      conv => whnf
      refine ⟨⟨Nat.zero_le _, by simp⟩, ?_⟩
      conv => whnf
      repeat' constructor
    · conv => whnf
      repeat' constructor
  | cons x r =>
    obtain rfl : b = false := by cases b; rfl; exact absurd (hb rfl) (by simp)
    conv => whnf
    refine And.intro rfl ?_
    conv => whnf
    refine And.intro ⟨?_, ?_⟩ fun A' c' hv => ?_
    · simp only [List.length_map, List.length_cons] at *; omega
    · simp only [List.length_map, List.length_cons] at *; omega
    conv => whnf
    repeat' constructor
def cmpZ (x y : Int) : Int := if x < y then -1 else if y < x then 1 else 0
theorem c_cmp_int (x y : Int) : Fc Tryz.prog n_cmp_Compare_int [iv x, iv y] (iv (cmpZ x y)) := by
  refine Fc.of_body tabOk q_cmp_Compare_int (by kernel_rfl) (rfl) (rfl) ?_
  conv => whnf
  repeat' (first
    | (refine bltG (by first | omega | (simp only [List.length_map] at *; omega)) ?_; conv => whnf)
    | (refine ndG (by assumption) ?_; conv => whnf)
    | (refine mulG ?_; conv => whnf)
    | (refine And.intro rfl ?_; conv => whnf)
    | (refine dsT (by assumption) ?_; conv => whnf)
    | (refine dsF (by assumption) ?_; conv => whnf)
    | (refine nsT (by assumption) ?_; conv => whnf)
    | (refine nsF (by assumption) ?_; conv => whnf)
    | (refine bsT (by assumption) ?_; conv => whnf)
    | (refine bsF (by assumption) ?_; conv => whnf)
    | (refine dsp ?_ ?_ <;> intro _ <;> conv => whnf)
    | (refine nsp ?_ ?_ <;> intro _ <;> conv => whnf)
    | (refine cnd_true (by assumption) ?_; conv => whnf)
    | (refine cnd_false (by assumption) ?_; conv => whnf)
    | (refine cnd_split ?_ ?_ <;> intro _ <;> conv => whnf)
    | (refine Cd.par tabOk (by kernel_rfl) (by kernel_rfl) ?_; conv => whnf)
    | (refine Tr.of_body tabOk q_cmp_isNaN_int (by kernel_rfl) ?_; conv => whnf))
  all_goals try (exfalso; simp_all; done)
  · unfold cmpZ; rw [if_pos ‹_›]; rfl
  · unfold cmpZ; rw [if_neg ‹_›, if_pos ‹_›]; rfl
  · unfold cmpZ; rw [if_neg ‹_›, if_neg ‹_›]; rfl
def cmpS (x y : ByteArray) : Int := if Op.bytesLess x.toList y.toList = true then -1 else if (!(Op.bytesLess x.toList y.toList || decide (x = y))) = true then 1 else 0
theorem c_cmp_string (x y : ByteArray) : Fc Tryz.prog n_cmp_Compare_string [ss x, ss y] (iv (cmpS x y)) := by
  refine Fc.of_body tabOk q_cmp_Compare_string (by kernel_rfl) (rfl) (rfl) ?_
  conv => whnf
  repeat' (first
    | (refine bltG (by first | omega | (simp only [List.length_map] at *; omega)) ?_; conv => whnf)
    | (refine ndG (by assumption) ?_; conv => whnf)
    | (refine mulG ?_; conv => whnf)
    | (refine And.intro rfl ?_; conv => whnf)
    | (refine dsT (by assumption) ?_; conv => whnf)
    | (refine dsF (by assumption) ?_; conv => whnf)
    | (refine nsT (by assumption) ?_; conv => whnf)
    | (refine nsF (by assumption) ?_; conv => whnf)
    | (refine bsT (by assumption) ?_; conv => whnf)
    | (refine bsF (by assumption) ?_; conv => whnf)
    | (refine dsp ?_ ?_ <;> intro _ <;> conv => whnf)
    | (refine nsp ?_ ?_ <;> intro _ <;> conv => whnf)
    | (refine cnd_true (by assumption) ?_; conv => whnf)
    | (refine cnd_false (by assumption) ?_; conv => whnf)
    | (refine cnd_split ?_ ?_ <;> intro _ <;> conv => whnf)
    | (refine Cd.par tabOk (by kernel_rfl) (by kernel_rfl) ?_; conv => whnf)
    | (refine Tr.of_body tabOk q_cmp_isNaN_string (by kernel_rfl) ?_; conv => whnf))
  all_goals try (exfalso; simp_all; done)
  · unfold cmpS; rw [if_pos ‹_›]; rfl
  · unfold cmpS; rw [if_neg (by simp [*]), if_pos ‹_›]; rfl
  · unfold cmpS; rw [if_neg (by rw [‹Op.bytesLess x.toList y.toList = false›]; simp), if_neg (by rw [‹(!(Op.bytesLess x.toList y.toList || decide (x = y))) = false›]; simp)]; rfl
theorem c_value_bit (b : Bool) : Fc Tryz.prog n_value_bit [sb b] (iv (btI b)) := by
  refine Fc.of_body tabOk q_value_bit (by kernel_rfl) (rfl) (rfl) ?_
  conv => whnf
  cases b
  · repeat' (first
      | (refine bltG (by first | omega | (simp only [List.length_map] at *; omega)) ?_; conv => whnf)
      | (refine ndG (by assumption) ?_; conv => whnf)
      | (refine mulG ?_; conv => whnf)
      | (refine And.intro rfl ?_; conv => whnf)
      | (refine dsT (by assumption) ?_; conv => whnf)
      | (refine dsF (by assumption) ?_; conv => whnf)
      | (refine nsT (by assumption) ?_; conv => whnf)
      | (refine nsF (by assumption) ?_; conv => whnf)
      | (refine bsT (by assumption) ?_; conv => whnf)
      | (refine bsF (by assumption) ?_; conv => whnf)
      | (refine dsp ?_ ?_ <;> intro _ <;> conv => whnf)
      | (refine nsp ?_ ?_ <;> intro _ <;> conv => whnf)
      | (refine cnd_true (by assumption) ?_; conv => whnf)
      | (refine cnd_false (by assumption) ?_; conv => whnf)
      | (refine cnd_split ?_ ?_ <;> intro _ <;> conv => whnf)
      | (refine Cd.par tabOk (by kernel_rfl) (by kernel_rfl) ?_; conv => whnf))
    rfl
  · repeat' (first
      | (refine bltG (by first | omega | (simp only [List.length_map] at *; omega)) ?_; conv => whnf)
      | (refine ndG (by assumption) ?_; conv => whnf)
      | (refine mulG ?_; conv => whnf)
      | (refine And.intro rfl ?_; conv => whnf)
      | (refine dsT (by assumption) ?_; conv => whnf)
      | (refine dsF (by assumption) ?_; conv => whnf)
      | (refine nsT (by assumption) ?_; conv => whnf)
      | (refine nsF (by assumption) ?_; conv => whnf)
      | (refine bsT (by assumption) ?_; conv => whnf)
      | (refine bsF (by assumption) ?_; conv => whnf)
      | (refine dsp ?_ ?_ <;> intro _ <;> conv => whnf)
      | (refine nsp ?_ ?_ <;> intro _ <;> conv => whnf)
      | (refine cnd_true (by assumption) ?_; conv => whnf)
      | (refine cnd_false (by assumption) ?_; conv => whnf)
      | (refine cnd_split ?_ ?_ <;> intro _ <;> conv => whnf)
      | (refine Cd.par tabOk (by kernel_rfl) (by kernel_rfl) ?_; conv => whnf))
    rfl
def fst4 (a b c d : Int) : Int := if a ≠ 0 then a else if b ≠ 0 then b else if c ≠ 0 then c else d
theorem c_value_first (a b c d : Int) : Fc Tryz.prog n_value_first [ints [a, b, c, d]] (iv (fst4 a b c d)) := by
  refine Fc.of_body tabOk q_value_first (by kernel_rfl) (rfl) (rfl) ?_
  conv => whnf
  repeat' (first
    | (refine bltG (by first | omega | (simp only [List.length_map] at *; omega)) ?_; conv => whnf)
    | (refine ndG (by assumption) ?_; conv => whnf)
    | (refine mulG ?_; conv => whnf)
    | (refine And.intro rfl ?_; conv => whnf)
    | (refine dsT (by assumption) ?_; conv => whnf)
    | (refine dsF (by assumption) ?_; conv => whnf)
    | (refine nsT (by assumption) ?_; conv => whnf)
    | (refine nsF (by assumption) ?_; conv => whnf)
    | (refine bsT (by assumption) ?_; conv => whnf)
    | (refine bsF (by assumption) ?_; conv => whnf)
    | (refine dsp ?_ ?_ <;> intro _ <;> conv => whnf)
    | (refine nsp ?_ ?_ <;> intro _ <;> conv => whnf)
    | (refine cnd_true (by assumption) ?_; conv => whnf)
    | (refine cnd_false (by assumption) ?_; conv => whnf)
    | (refine cnd_split ?_ ?_ <;> intro _ <;> conv => whnf)
    | (refine Cd.par tabOk (by kernel_rfl) (by kernel_rfl) ?_; conv => whnf)
    | (refine Cd.unroll tabOk 5 ?_; conv => whnf))
  all_goals unfold fst4
  all_goals simp [*]
  all_goals first | rfl | (rw [show d = 0 by omega]; rfl) | trivial
end Go.Proofs.YtmjpidjdbofdjaaGreat

/- Contracts: the lattices' joins. -/
set_option maxRecDepth 100000
set_option maxHeartbeats 1600000
namespace Go.Proofs.YtmjpidjdbofdjaaGreat
open Go Go.Sy
theorem bl_asym {x y : List UInt8} (h : Op.bytesLess x y = true) : Op.bytesLess y x = false := by
  cases hk : Op.bytesLess y x with
  | false => rfl
  | true => have := bl_trans h hk; rw [bl_irrefl] at this; cases this
theorem cmpZ_ne {x y : Int} : cmpZ x y ≠ 0 ↔ x ≠ y := by unfold cmpZ; split <;> (try split) <;> omega
theorem cmpZ_neg {x y : Int} : cmpZ x y < 0 ↔ x < y := by unfold cmpZ; split <;> (try split) <;> omega
theorem cmpS_neg {x y : ByteArray} : cmpS x y < 0 ↔ Op.bytesLess x.toList y.toList = true := by
  unfold cmpS; split
  · simp [*]
  · rename_i h; split <;> simp [h]
theorem regLt_eq (a b : Val) : (fst4 (cmpZ a.time b.time) (cmpZ a.node b.node) (btI a.dead - btI b.dead) (cmpS a.text b.text) < 0) ↔ regLt a b = true := by
  have hd : btI a.dead - btI b.dead ≠ 0 ↔ a.dead ≠ b.dead := by cases a.dead <;> cases b.dead <;> simp [btI]
  unfold fst4 regLt
  simp only [Bool.or_eq_true, Bool.and_eq_true, decide_eq_true_eq]
  by_cases h1 : a.time = b.time
  · rw [if_neg (by rw [cmpZ_ne]; simpa using h1)]
    by_cases h2 : a.node = b.node
    · rw [if_neg (by rw [cmpZ_ne]; simpa using h2)]
      by_cases h3 : a.dead = b.dead
      · rw [if_neg (by rw [hd]; simpa using h3), cmpS_neg]
        simp [h1, h2, h3]
      · rw [if_pos (hd.2 h3)]
        simp only [h1, h2, h3, Int.lt_irrefl, false_or, true_and, false_and, or_false]
        omega
    · rw [if_pos (cmpZ_ne.2 h2), cmpZ_neg]
      simp [h1, h2]
  · rw [if_pos (cmpZ_ne.2 h1), cmpZ_neg]
    simp [h1]
theorem bti_wrap (a b : Bool) : IntKind.wrap .i64 (btI a - btI b) = btI a - btI b := by cases a <;> cases b <;> rfl
theorem c_register_join (a b : Val) (ha : a.kind = 1) : Fc Tryz.prog n_value_register_join [.agg [], a.sv, b.sv] (joinV a b).sv := by
  have h1 := c_cmp_int a.time b.time
  have h2 := c_cmp_int a.node b.node
  have h3 := c_value_bit a.dead
  have h4 := c_value_bit b.dead
  have h5 := c_cmp_string a.text b.text
  have h6 := c_value_first (cmpZ a.time b.time) (cmpZ a.node b.node) (btI a.dead - btI b.dead) (cmpS a.text b.text)
  rw [← bti_wrap] at h6
  have hr := regLt_eq a b
  rw [← bti_wrap] at hr
  generalize hf : fst4 (cmpZ a.time b.time) (cmpZ a.node b.node) (IntKind.wrap .i64 (btI a.dead - btI b.dead)) (cmpS a.text b.text) = z at *
  refine Fc.of_body tabOk q_value_register_join (by kernel_rfl) ((blwL_cons rfl (blwL_cons (blw_val 0 a) (blwL_one (blw_val 0 b))))) ((blw_val 0 _)) ?_
  conv => whnf
  repeat' (first
    | (refine bltG (by first | omega | (simp only [List.length_map] at *; omega)) ?_; conv => whnf)
    | (refine ndG (by assumption) ?_; conv => whnf)
    | (refine mulG ?_; conv => whnf)
    | (refine And.intro rfl ?_; conv => whnf)
    | (refine dsT (by assumption) ?_; conv => whnf)
    | (refine dsF (by assumption) ?_; conv => whnf)
    | (refine nsT (by assumption) ?_; conv => whnf)
    | (refine nsF (by assumption) ?_; conv => whnf)
    | (refine bsT (by assumption) ?_; conv => whnf)
    | (refine bsF (by assumption) ?_; conv => whnf)
    | (refine dsp ?_ ?_ <;> intro _ <;> conv => whnf)
    | (refine nsp ?_ ?_ <;> intro _ <;> conv => whnf)
    | (refine cnd_true (by assumption) ?_; conv => whnf)
    | (refine cnd_false (by assumption) ?_; conv => whnf)
    | (refine cnd_split ?_ ?_ <;> intro _ <;> conv => whnf)
    | (refine Cd.par tabOk (by kernel_rfl) (by kernel_rfl) ?_; conv => whnf)
    | (refine Fc.use (h1) ?_ ?_; (focus ((repeat' constructor); done)); conv => whnf)
    | (refine CallQ.of (h1) ?_ ?_; (focus ((repeat' constructor); done)); conv => whnf)
    | (refine Fc.use (h2) ?_ ?_; (focus ((repeat' constructor); done)); conv => whnf)
    | (refine CallQ.of (h2) ?_ ?_; (focus ((repeat' constructor); done)); conv => whnf)
    | (refine Fc.use (h3) ?_ ?_; (focus ((repeat' constructor); done)); conv => whnf)
    | (refine CallQ.of (h3) ?_ ?_; (focus ((repeat' constructor); done)); conv => whnf)
    | (refine Fc.use (h4) ?_ ?_; (focus ((repeat' constructor); done)); conv => whnf)
    | (refine CallQ.of (h4) ?_ ?_; (focus ((repeat' constructor); done)); conv => whnf)
    | (refine Fc.use (h5) ?_ ?_; (focus ((repeat' constructor); done)); conv => whnf)
    | (refine CallQ.of (h5) ?_ ?_; (focus ((repeat' constructor); done)); conv => whnf)
    | (refine Fc.use (h6) ?_ ?_; (focus ((repeat' constructor); done)); conv => whnf)
    | (refine CallQ.of (h6) ?_ ?_; (focus ((repeat' constructor); done)); conv => whnf))
  · rw [show joinV a b = b by unfold joinV; rw [if_pos ha, if_pos (hr.1 ‹_›)]]; (repeat' constructor)
  · rw [show joinV a b = a by unfold joinV; rw [if_pos ha, if_neg (fun h => ‹¬ _› (hr.2 h))]]; (repeat' constructor)
def zmaxAt (x y : List Int) (i : Nat) : List Int := zmax (x.take i) (y.take i) ++ x.drop i
theorem zmaxAt_zero (x y : List Int) : zmaxAt x y 0 = x := by simp [zmaxAt, zmax]
theorem zmax_append : ∀ (x y : List Int) (u v : Int), x.length = y.length → zmax (x ++ [u]) (y ++ [v]) = zmax x y ++ [max u v]
  | [], [], u, v, _ => rfl
  | x :: r, y :: s, u, v, h => by simp only [List.length_cons, Nat.add_right_cancel_iff] at h; simp [zmax, zmax_append r s u v h]
theorem zmaxAt_succ {x y : List Int} {i : Nat} {u v : Int} (hu : x[i]? = some u) (hv : y[i]? = some v) : (zmaxAt x y i).set i (max u v) = zmaxAt x y (i + 1) := by
  have h1 := (List.getElem?_eq_some_iff.1 hu).1
  have h2 := (List.getElem?_eq_some_iff.1 hv).1
  unfold zmaxAt
  have hl : (zmax (x.take i) (y.take i)).length = i := by rw [zmax_len]; simp; omega
  rw [List.set_append_right _ _ (by omega), hl, Nat.sub_self]
  rw [List.take_add_one, List.take_add_one, hu, hv]
  simp only [Option.toList_some]
  rw [zmax_append _ _ _ _ (by simp; omega)]
  have hd : x.drop i = u :: x.drop (i + 1) := by rw [List.drop_eq_getElem_cons h1]; rw [List.getElem?_eq_getElem h1] at hu; rw [Option.some.inj hu]
  rw [hd]
  simp
theorem zmaxAt_full {x y : List Int} (h : x.length = y.length) : zmaxAt x y y.length = zmax x y := by
  unfold zmaxAt
  rw [List.take_of_length_le (by omega), List.take_of_length_le (by omega), List.drop_of_length_le (by omega), List.append_nil]
theorem zmaxAt_get {x y : List Int} {i : Nat} (h : x.length = y.length) (hi : i ≤ y.length) : (zmaxAt x y i)[i]? = x[i]? := by
  unfold zmaxAt
  have hl : (zmax (x.take i) (y.take i)).length = i := by rw [zmax_len]; simp; omega
  rw [List.getElem?_append_right (by omega), hl, Nat.sub_self]
  simp
theorem ints_set (es : List Int) (i : Nat) (k : Int) : (es.map iv).set i (iv k) = (es.set i k).map iv := by simp
theorem rowV_some {A : Option Addr} {n c : Nat} (h : RowV A n c) (h0 : n ≠ 0) : ∃ g, A = some ⟨g, 0, none⟩ := by
  cases A with
  | none => exact absurd (h.nil rfl).1 h0
  | some a => exact ⟨a.block, by rw [← h.at0 a rfl]⟩
theorem c_most (x y : List Int) (h : x.length = y.length) (h0 : x ≠ []) (hl : x.length < 2 ^ 40) : Fc Tryz.prog n_value_counter_join_1 [ints x, ints y] (ints (zmax x y)) := by
  have hm : 2 ^ 40 * 8 ≤ 140737488355328 := by decide
  have hm2 : 2 ^ 40 ≤ maxLen := by decide
  refine Fc.of_body tabOk q_value_counter_join_1 (by kernel_rfl) ((blwL_cons (blw_ints 0 x) (blwL_one (blw_ints 0 y)))) ((blw_ints 0 _)) ?_
  conv => whnf
  repeat' (first
    | (refine bltG (by first | omega | (simp only [List.length_map] at *; omega)) ?_; conv => whnf)
    | (refine ndG (by assumption) ?_; conv => whnf)
    | (refine mulG ?_; conv => whnf)
    | (refine And.intro rfl ?_; conv => whnf)
    | (refine dsT (by assumption) ?_; conv => whnf)
    | (refine dsF (by assumption) ?_; conv => whnf)
    | (refine nsT (by assumption) ?_; conv => whnf)
    | (refine nsF (by assumption) ?_; conv => whnf)
    | (refine bsT (by assumption) ?_; conv => whnf)
    | (refine bsF (by assumption) ?_; conv => whnf)
    | (refine dsp ?_ ?_ <;> intro _ <;> conv => whnf)
    | (refine nsp ?_ ?_ <;> intro _ <;> conv => whnf)
    | (refine cnd_true (by assumption) ?_; conv => whnf)
    | (refine cnd_false (by assumption) ?_; conv => whnf)
    | (refine cnd_split ?_ ?_ <;> intro _ <;> conv => whnf)
    | (refine Cd.par tabOk (by kernel_rfl) (by kernel_rfl) ?_; conv => whnf)
    | (refine Tr.of_body tabOk q_slices_Clone_Lint_int (by kernel_rfl) ?_; conv => whnf))
  intro b hb
  cases x with
  | nil => exact absurd rfl h0
  | cons x0 r =>
    obtain rfl : b = false := by cases b; rfl; exact absurd (hb rfl) (by simp)
    conv => whnf
    refine And.intro rfl ?_
    conv => whnf
    refine And.intro ⟨?_, ?_⟩ fun A' c' hv => ?_
    · simp only [List.length_map, List.length_cons] at *; omega
    · simp only [List.length_map, List.length_cons] at *; omega
    conv => whnf
    have hN : (List.map iv (x0 :: r)).length = (x0 :: r).length := List.length_map ..
    obtain ⟨g, rfl⟩ : ∃ g, A' = some ⟨g, 0, none⟩ := rowV_some hv (by rw [hN]; simp)
    generalize hx : x0 :: r = x at *
    have hM : (y.map iv).length = y.length := List.length_map ..
    refine loopP tabOk (fun i : Nat => i ≤ y.length) (fun i => ⟨[(12, iv i), (11, iv (y.map iv).length), (10, ints y), (5, .own 0 (some ⟨g, 0, none⟩) (x.map iv).length c')], []⟩)
      (fun i => ⟨0, [], [⟨some ⟨g, 0, none⟩, (x.map iv).length, c', t_int, 1, (zmaxAt x y i).map iv, false⟩]⟩) (fun i => y.length - i) 0 (Nat.zero_le _) (by rw [zmaxAt_zero]; repeat' constructor) (fun _ => rfl) ?_
    intro i hi
    conv => whnf
    refine dsp ?_ ?_ <;> intro hlt <;> conv => whnf
    · rw [hM] at hlt
      obtain ⟨u, hu⟩ : ∃ u, x[i]? = some u := ⟨_, List.getElem?_eq_getElem (by omega)⟩
      obtain ⟨v, hv'⟩ : ∃ u, y[i]? = some u := ⟨_, List.getElem?_eq_getElem (by omega)⟩
      have hz : (zmaxAt x y i)[i]? = some u := by rw [zmaxAt_get h (by omega)]; exact hu
      have hmx : max u v = min2 .max .i64 u v := by unfold min2; simp only; split <;> omega
      repeat' (first
        | (refine bltG (by first | omega | (simp only [List.length_map] at *; omega)) ?_; conv => whnf)
        | (refine ndG (by assumption) ?_; conv => whnf)
        | (refine mulG ?_; conv => whnf)
        | (refine And.intro rfl ?_; conv => whnf)
        | (refine dsT (by assumption) ?_; conv => whnf)
        | (refine dsF (by assumption) ?_; conv => whnf)
        | (refine nsT (by assumption) ?_; conv => whnf)
        | (refine nsF (by assumption) ?_; conv => whnf)
        | (refine bsT (by assumption) ?_; conv => whnf)
        | (refine bsF (by assumption) ?_; conv => whnf)
        | (refine dsp ?_ ?_ <;> intro _ <;> conv => whnf)
        | (refine nsp ?_ ?_ <;> intro _ <;> conv => whnf)
        | (refine cnd_true (by assumption) ?_; conv => whnf)
        | (refine cnd_false (by assumption) ?_; conv => whnf)
        | (refine cnd_split ?_ ?_ <;> intro _ <;> conv => whnf)
        | (refine Cd.par tabOk (by kernel_rfl) (by kernel_rfl) ?_; conv => whnf))
      refine ⟨i + 1, by omega, ?_, ?_⟩
      · first | omega | (simp only [List.length_map] at *; omega)
      · (repeat' constructor) <;> first | (refine ivW ?_ ?_ ?_ <;> first | omega | (dsimp only; omega)) | exact rowEq (by rw [← zmaxAt_succ hu hv', hmx]; exact (ints_set _ _ _).symm)
    · have hie : i = y.length := by rw [hM] at hlt; omega
      subst hie
      rw [zmaxAt_full h]
      repeat' (first
        | (refine bltG (by first | omega | (simp only [List.length_map] at *; omega)) ?_; conv => whnf)
        | (refine ndG (by assumption) ?_; conv => whnf)
        | (refine mulG ?_; conv => whnf)
        | (refine And.intro rfl ?_; conv => whnf)
        | (refine dsT (by assumption) ?_; conv => whnf)
        | (refine dsF (by assumption) ?_; conv => whnf)
        | (refine nsT (by assumption) ?_; conv => whnf)
        | (refine nsF (by assumption) ?_; conv => whnf)
        | (refine bsT (by assumption) ?_; conv => whnf)
        | (refine bsF (by assumption) ?_; conv => whnf)
        | (refine dsp ?_ ?_ <;> intro _ <;> conv => whnf)
        | (refine nsp ?_ ?_ <;> intro _ <;> conv => whnf)
        | (refine cnd_true (by assumption) ?_; conv => whnf)
        | (refine cnd_false (by assumption) ?_; conv => whnf)
        | (refine cnd_split ?_ ?_ <;> intro _ <;> conv => whnf)
        | (refine Cd.par tabOk (by kernel_rfl) (by kernel_rfl) ?_; conv => whnf))
      repeat' constructor
theorem c_counter_join (a b : Val) (ha : a.kind = 2) (hp : a.plus.length = 8 ∧ b.plus.length = 8) (hm : a.minus.length = 8 ∧ b.minus.length = 8) : Fc Tryz.prog n_value_counter_join [.agg [], a.sv, b.sv] (joinV a b).sv := by
  have h1 := c_most a.plus b.plus (by omega) (by intro e; rw [e] at hp; simp at hp) (by omega)
  have h2 := c_most a.minus b.minus (by omega) (by intro e; rw [e] at hm; simp at hm) (by omega)
  rw [show joinV a b = { a with plus := zmax a.plus b.plus, minus := zmax a.minus b.minus } by unfold joinV; rw [if_neg (by omega), if_pos ha]]
  generalize zmax a.plus b.plus = p at *
  generalize zmax a.minus b.minus = q at *
  refine Fc.of_body tabOk q_value_counter_join (by kernel_rfl) ((blwL_cons rfl (blwL_cons (blw_val 0 a) (blwL_one (blw_val 0 b))))) ((blw_val 0 _)) ?_
  conv => whnf
  repeat' (first
    | (refine bltG (by first | omega | (simp only [List.length_map] at *; omega)) ?_; conv => whnf)
    | (refine ndG (by assumption) ?_; conv => whnf)
    | (refine mulG ?_; conv => whnf)
    | (refine And.intro rfl ?_; conv => whnf)
    | (refine dsT (by assumption) ?_; conv => whnf)
    | (refine dsF (by assumption) ?_; conv => whnf)
    | (refine nsT (by assumption) ?_; conv => whnf)
    | (refine nsF (by assumption) ?_; conv => whnf)
    | (refine bsT (by assumption) ?_; conv => whnf)
    | (refine bsF (by assumption) ?_; conv => whnf)
    | (refine dsp ?_ ?_ <;> intro _ <;> conv => whnf)
    | (refine nsp ?_ ?_ <;> intro _ <;> conv => whnf)
    | (refine cnd_true (by assumption) ?_; conv => whnf)
    | (refine cnd_false (by assumption) ?_; conv => whnf)
    | (refine cnd_split ?_ ?_ <;> intro _ <;> conv => whnf)
    | (refine Cd.par tabOk (by kernel_rfl) (by kernel_rfl) ?_; conv => whnf)
    | (refine Fc.use (h1) ?_ ?_; (focus ((repeat' constructor); done)); conv => whnf)
    | (refine CallQ.of (h1) ?_ ?_; (focus ((repeat' constructor); done)); conv => whnf)
    | (refine Fc.use (h2) ?_ ?_; (focus ((repeat' constructor); done)); conv => whnf)
    | (refine CallQ.of (h2) ?_ ?_; (focus ((repeat' constructor); done)); conv => whnf)
    | rfl
    | exact True.intro
    | (refine And.intro ?_ ?_ <;> conv => whnf))
theorem c_flags_join (a b : Val) (ha : a.kind = 3) : Fc Tryz.prog n_value_flags_join [.agg [], a.sv, b.sv] (joinV a b).sv := by
  rw [show joinV a b = { a with flags := bitI .or .u64 a.flags b.flags } by unfold joinV; rw [if_neg (by omega), if_neg (by omega)]]
  refine Fc.of_body tabOk q_value_flags_join (by kernel_rfl) ((blwL_cons rfl (blwL_cons (blw_val 0 a) (blwL_one (blw_val 0 b))))) ((blw_val 0 _)) ?_
  conv => whnf
  repeat' (first
    | (refine bltG (by first | omega | (simp only [List.length_map] at *; omega)) ?_; conv => whnf)
    | (refine ndG (by assumption) ?_; conv => whnf)
    | (refine mulG ?_; conv => whnf)
    | (refine And.intro rfl ?_; conv => whnf)
    | (refine dsT (by assumption) ?_; conv => whnf)
    | (refine dsF (by assumption) ?_; conv => whnf)
    | (refine nsT (by assumption) ?_; conv => whnf)
    | (refine nsF (by assumption) ?_; conv => whnf)
    | (refine bsT (by assumption) ?_; conv => whnf)
    | (refine bsF (by assumption) ?_; conv => whnf)
    | (refine dsp ?_ ?_ <;> intro _ <;> conv => whnf)
    | (refine nsp ?_ ?_ <;> intro _ <;> conv => whnf)
    | (refine cnd_true (by assumption) ?_; conv => whnf)
    | (refine cnd_false (by assumption) ?_; conv => whnf)
    | (refine cnd_split ?_ ?_ <;> intro _ <;> conv => whnf)
    | (refine Cd.par tabOk (by kernel_rfl) (by kernel_rfl) ?_; conv => whnf))
  repeat' constructor
end Go.Proofs.YtmjpidjdbofdjaaGreat

/- Contracts: value.Join, entry.Join, arena.Find. -/
set_option maxRecDepth 100000
set_option maxHeartbeats 1600000
namespace Go.Proofs.YtmjpidjdbofdjaaGreat
open Go Go.Sy
theorem valOk.bd {v : Val} (h : valOk v) : v.bd := by
  rcases h with ⟨_, h⟩ | ⟨_, h⟩ | ⟨_, h⟩
  · have := h.1; rw [this]; exact ⟨by simp [regV], by simp [regV]⟩
  · exact ⟨by have := h.2.1; omega, by have := h.2.2.1; omega⟩
  · rw [h]; exact ⟨by simp [flgV], by simp [flgV]⟩
theorem entOk.bd {e : Ent} (h : entOk e) : e.bd := h.2.2.bd
theorem cntOf {v : Val} (h : valOk v) (hk : v.kind = 2) : cntIs v := by
  rcases h with h | h | h <;> first | exact h.2 | (exfalso; have := h.1; omega)
theorem c_value_Join (a b : Val) (ha : valOk a) (hb : valOk b) (hk : a.kind = b.kind) : Fc Tryz.prog n_value_Join [a.sv, b.sv] (.tup [(joinV a b).sv, iv 0]) := by
  have ca : Fc Tryz.prog n_value_Check [a.sv] (iv 0) := by have h := c_value_Check a ha.bd; unfold en at h; rw [if_pos ha] at h; exact h
  have cb : Fc Tryz.prog n_value_Check [b.sv] (iv 0) := by have h := c_value_Check b hb.bd; unfold en at h; rw [if_pos hb] at h; exact h
  have hj := (joinV_ok ha hb hk).bd
  have cp := c_Clone_int (joinV a b).plus hj.1
  have cm := c_Clone_int (joinV a b).minus hj.2
  have hn : ¬ a.kind ≠ b.kind := fun h => h hk
  have bb : blw 0 (SV.tup [(joinV a b).sv, iv 0]) = true := by simp [blw, blwL, blw_val, blw_iv]
  have main : ∀ {t : Nat} {g : Nat}, Fc Tryz.prog n_value_kinds [iv a.kind] (.tup [.ifc t (.agg []), sb true]) → methOf Tryz.prog t "ouroboros/value.join" = some g → Fc Tryz.prog g [.agg [], a.sv, b.sv] (joinV a b).sv → Fc Tryz.prog n_value_Join [a.sv, b.sv] (.tup [(joinV a b).sv, iv 0]) := by
    intro t g hl hm hj
    generalize joinV a b = j at *
    refine Fc.of_body tabOk q_value_Join (by kernel_rfl) ((blwL_cons (blw_val 0 a) (blwL_one (blw_val 0 b)))) (bb) ?_
    conv => whnf
    repeat' (first
      | (refine bltG (by first | omega | (simp only [List.length_map] at *; omega)) ?_; conv => whnf)
      | (refine ndG (by assumption) ?_; conv => whnf)
      | (refine mulG ?_; conv => whnf)
      | (refine And.intro rfl ?_; conv => whnf)
      | (refine dsT (by assumption) ?_; conv => whnf)
      | (refine dsF (by assumption) ?_; conv => whnf)
      | (refine nsT (by assumption) ?_; conv => whnf)
      | (refine nsF (by assumption) ?_; conv => whnf)
      | (refine bsT (by assumption) ?_; conv => whnf)
      | (refine bsF (by assumption) ?_; conv => whnf)
      | (refine dsp ?_ ?_ <;> intro _ <;> conv => whnf)
      | (refine nsp ?_ ?_ <;> intro _ <;> conv => whnf)
      | (refine cnd_true (by assumption) ?_; conv => whnf)
      | (refine cnd_false (by assumption) ?_; conv => whnf)
      | (refine cnd_split ?_ ?_ <;> intro _ <;> conv => whnf)
      | (refine Cd.par tabOk (by kernel_rfl) (by kernel_rfl) ?_; conv => whnf)
      | (refine Fc.use (ca) ?_ ?_; (focus ((repeat' constructor); done)); conv => whnf)
      | (refine CallQ.of (ca) ?_ ?_; (focus ((repeat' constructor); done)); conv => whnf)
      | (refine Fc.use (cb) ?_ ?_; (focus ((repeat' constructor); done)); conv => whnf)
      | (refine CallQ.of (cb) ?_ ?_; (focus ((repeat' constructor); done)); conv => whnf)
      | (refine Fc.use (hl) ?_ ?_; (focus ((repeat' constructor); done)); conv => whnf)
      | (refine CallQ.of (hl) ?_ ?_; (focus ((repeat' constructor); done)); conv => whnf))
    refine Exists.intro g (And.intro hm ?_)
    conv => whnf
    repeat' (first
      | (refine bltG (by first | omega | (simp only [List.length_map] at *; omega)) ?_; conv => whnf)
      | (refine ndG (by assumption) ?_; conv => whnf)
      | (refine mulG ?_; conv => whnf)
      | (refine And.intro rfl ?_; conv => whnf)
      | (refine dsT (by assumption) ?_; conv => whnf)
      | (refine dsF (by assumption) ?_; conv => whnf)
      | (refine nsT (by assumption) ?_; conv => whnf)
      | (refine nsF (by assumption) ?_; conv => whnf)
      | (refine bsT (by assumption) ?_; conv => whnf)
      | (refine bsF (by assumption) ?_; conv => whnf)
      | (refine dsp ?_ ?_ <;> intro _ <;> conv => whnf)
      | (refine nsp ?_ ?_ <;> intro _ <;> conv => whnf)
      | (refine cnd_true (by assumption) ?_; conv => whnf)
      | (refine cnd_false (by assumption) ?_; conv => whnf)
      | (refine cnd_split ?_ ?_ <;> intro _ <;> conv => whnf)
      | (refine Cd.par tabOk (by kernel_rfl) (by kernel_rfl) ?_; conv => whnf)
      | (refine Fc.use (hj) ?_ ?_; (focus ((repeat' constructor); done)); conv => whnf)
      | (refine CallQ.of (hj) ?_ ?_; (focus ((repeat' constructor); done)); conv => whnf)
      | rfl
      | exact True.intro
      | (refine And.intro ?_ ?_ <;> conv => whnf)
      | (refine Fc.use (cp) ?_ ?_; (focus ((repeat' constructor); done)); conv => whnf)
      | (refine CallQ.of (cp) ?_ ?_; (focus ((repeat' constructor); done)); conv => whnf)
      | (refine Fc.use (cm) ?_ ?_; (focus ((repeat' constructor); done)); conv => whnf)
      | (refine CallQ.of (cm) ?_ ?_; (focus ((repeat' constructor); done)); conv => whnf))
  rcases ha with ⟨k, h⟩ | ⟨k, h⟩ | ⟨k, h⟩
  · exact main (latOf1 k) (by kernel_rfl) (c_register_join a b k)
  · have h1 := cntOf (.inr (.inl ⟨k, h⟩)) k
    have h2 := cntOf hb (by omega)
    exact main (latOf2 k) (by kernel_rfl) (c_counter_join a b k ⟨h1.2.1, h2.2.1⟩ ⟨h1.2.2.1, h2.2.2.1⟩)
  · exact main (latOf3 k) (by kernel_rfl) (c_flags_join a b k)
theorem c_entry_Join (a b : Ent) (ha : entOk a) (hb : entOk b) (hn : named a b) : Fc Tryz.prog n_entry_Join [a.sv, b.sv] (.tup [(joinE a b).sv, iv 0]) := by
  have ca : Fc Tryz.prog n_entry_Check [a.sv] (iv 0) := by have h := c_entry_Check a ha.bd; unfold en at h; rw [if_pos ha] at h; exact h
  have cb : Fc Tryz.prog n_entry_Check [b.sv] (iv 0) := by have h := c_entry_Check b hb.bd; unfold en at h; rw [if_pos hb] at h; exact h
  have cv := c_value_Join a.val b.val ha.2.2 hb.2.2 hn.1
  have e1 : a.key = b.key := hn.2
  have e2 : a.val.kind = b.val.kind := hn.1
  have bb : blw 0 (SV.tup [(joinE a b).sv, iv 0]) = true := by simp [blw, blwL, blw_ent, blw_iv]
  unfold joinE at *
  generalize joinV a.val b.val = j at *
  refine Fc.of_body tabOk q_entry_Join (by kernel_rfl) ((blwL_cons (blw_ent 0 a) (blwL_one (blw_ent 0 b)))) (bb) ?_
  conv => whnf
  repeat' (first
    | (refine bltG (by first | omega | (simp only [List.length_map] at *; omega)) ?_; conv => whnf)
    | (refine ndG (by assumption) ?_; conv => whnf)
    | (refine mulG ?_; conv => whnf)
    | (refine And.intro rfl ?_; conv => whnf)
    | (refine dsT (by assumption) ?_; conv => whnf)
    | (refine dsF (by assumption) ?_; conv => whnf)
    | (refine nsT (by assumption) ?_; conv => whnf)
    | (refine nsF (by assumption) ?_; conv => whnf)
    | (refine bsT (by assumption) ?_; conv => whnf)
    | (refine bsF (by assumption) ?_; conv => whnf)
    | (refine dsp ?_ ?_ <;> intro _ <;> conv => whnf)
    | (refine nsp ?_ ?_ <;> intro _ <;> conv => whnf)
    | (refine cnd_true (by assumption) ?_; conv => whnf)
    | (refine cnd_false (by assumption) ?_; conv => whnf)
    | (refine cnd_split ?_ ?_ <;> intro _ <;> conv => whnf)
    | (refine Cd.par tabOk (by kernel_rfl) (by kernel_rfl) ?_; conv => whnf)
    | (refine Fc.use (ca) ?_ ?_; (focus ((repeat' constructor); done)); conv => whnf)
    | (refine CallQ.of (ca) ?_ ?_; (focus ((repeat' constructor); done)); conv => whnf)
    | (refine Fc.use (cb) ?_ ?_; (focus ((repeat' constructor); done)); conv => whnf)
    | (refine CallQ.of (cb) ?_ ?_; (focus ((repeat' constructor); done)); conv => whnf)
    | (refine Fc.use (cv) ?_ ?_; (focus ((repeat' constructor); done)); conv => whnf)
    | (refine CallQ.of (cv) ?_ ?_; (focus ((repeat' constructor); done)); conv => whnf))
  all_goals first | (exfalso; first | contradiction | omega) | (repeat' constructor)
theorem c_entry_Same (a b : Ent) (ha : a.bd) : Fc Tryz.prog n_entry_Same [a.sv, b.sv] (sb (decide (a = b))) := by
  refine Fc.of_body tabOk q_entry_Same (by kernel_rfl) ((blwL_cons (blw_ent 0 a) (blwL_one (blw_ent 0 b)))) (rfl) ?_
  conv => whnf
  rw [show decide (a = b) = decide (a.key = b.key ∧ a.val = b.val) from decide_eq_decide.2 (Ent.ext_iff a b)]
  repeat' (first
    | (refine bltG (by first | omega | (simp only [List.length_map] at *; omega)) ?_; conv => whnf)
    | (refine ndG (by assumption) ?_; conv => whnf)
    | (refine mulG ?_; conv => whnf)
    | (refine And.intro rfl ?_; conv => whnf)
    | (refine dsT (by assumption) ?_; conv => whnf)
    | (refine dsF (by assumption) ?_; conv => whnf)
    | (refine nsT (by assumption) ?_; conv => whnf)
    | (refine nsF (by assumption) ?_; conv => whnf)
    | (refine bsT (by assumption) ?_; conv => whnf)
    | (refine bsF (by assumption) ?_; conv => whnf)
    | (refine dsp ?_ ?_ <;> intro _ <;> conv => whnf)
    | (refine nsp ?_ ?_ <;> intro _ <;> conv => whnf)
    | (refine cnd_true (by assumption) ?_; conv => whnf)
    | (refine cnd_false (by assumption) ?_; conv => whnf)
    | (refine cnd_split ?_ ?_ <;> intro _ <;> conv => whnf)
    | (refine Cd.par tabOk (by kernel_rfl) (by kernel_rfl) ?_; conv => whnf)
    | (refine Fc.use (c_value_Same a.val b.val ha) ?_ ?_; (focus ((repeat' constructor); done)); conv => whnf)
    | (refine CallQ.of (c_value_Same a.val b.val ha) ?_ ?_; (focus ((repeat' constructor); done)); conv => whnf))
  all_goals first
    | rfl
    | (refine sbT ?_; ((try simp only [List.length_map] at *); first | omega | grind))
    | (refine sbF ?_; ((try simp only [List.length_map] at *); first | omega | grind))
    | (refine sbD ?_; ((try simp only [List.length_map] at *); first | omega | grind))
    | (refine sbB ?_; ((try simp only [List.length_map] at *); first | omega | grind))
    | (refine ivT ?_; ((try simp only [List.length_map] at *); first | omega | grind))
    | (refine ivF ?_; ((try simp only [List.length_map] at *); first | omega | grind))
    | (refine ivD ?_; ((try simp only [List.length_map] at *); first | omega | grind))
end Go.Proofs.YtmjpidjdbofdjaaGreat

/- Contracts: arena.Find. -/
set_option maxRecDepth 100000
set_option maxHeartbeats 1600000
namespace Go.Proofs.YtmjpidjdbofdjaaGreat
open Go Go.Sy
def isN (k : Int) (s : ByteArray) (x : Ent) : Bool := decide (x.val.kind = k ∧ x.key = s)
/-- Where a name is; -1. -/
def findZ (l : List Ent) (k : Int) (s : ByteArray) : Int := match l.findIdx? (isN k s) with | some i => i | none => -1
theorem c_arena_Find1 (a : Ar) (ha : a.bd) (hk : arOk a) (k : Int) (s : ByteArray) : Fc Tryz.prog n_arena_Find [a.sv, iv k, ss s] (iv (findZ a.slots k s)) := by
  have hck := c_arena_Check a ha
  have hlen : a.slots.length ≤ 8 := by have h1 := hk.2.1; have h2 := hk.2.2.1; omega
  have h0 : (if arOk a then (0 : Int) else 2) = 0 := if_pos hk
  have hN : (a.slots.map Ent.sv).length = a.slots.length := List.length_map ..
  refine Fc.of_body tabOk q_arena_Find (by kernel_rfl) ((blwL_cons (blw_ar 0 a) (blwL_cons rfl (blwL_one rfl)))) (rfl) ?_
  conv => whnf
  repeat' (first
    | (refine bltG (by first | omega | (simp only [List.length_map] at *; omega)) ?_; conv => whnf)
    | (refine ndG (by assumption) ?_; conv => whnf)
    | (refine mulG ?_; conv => whnf)
    | (refine And.intro rfl ?_; conv => whnf)
    | (refine dsT (by assumption) ?_; conv => whnf)
    | (refine dsF (by assumption) ?_; conv => whnf)
    | (refine nsT (by assumption) ?_; conv => whnf)
    | (refine nsF (by assumption) ?_; conv => whnf)
    | (refine bsT (by assumption) ?_; conv => whnf)
    | (refine bsF (by assumption) ?_; conv => whnf)
    | (refine dsp ?_ ?_ <;> intro _ <;> conv => whnf)
    | (refine nsp ?_ ?_ <;> intro _ <;> conv => whnf)
    | (refine cnd_true (by assumption) ?_; conv => whnf)
    | (refine cnd_false (by assumption) ?_; conv => whnf)
    | (refine cnd_split ?_ ?_ <;> intro _ <;> conv => whnf)
    | (refine Cd.par tabOk (by kernel_rfl) (by kernel_rfl) ?_; conv => whnf)
    | (refine Tr.of_body tabOk q_arena_each (by kernel_rfl) ?_; conv => whnf))
  refine Cd.rangeFunc [(3, .loc 0 0), (4, .loc 1 0), (5, .loc 2 0), (6, .loc 3 0)] (by repeat' constructor) ?_
  conv => whnf
  refine And.intro ⟨_, q_arena_each_1, by kernel_rfl⟩ ?_
  refine Tr.of_body tabOk q_arena_each_1 (by kernel_rfl) ?_
  conv => whnf
  repeat' (first
    | (refine bltG (by first | omega | (simp only [List.length_map] at *; omega)) ?_; conv => whnf)
    | (refine ndG (by assumption) ?_; conv => whnf)
    | (refine mulG ?_; conv => whnf)
    | (refine And.intro rfl ?_; conv => whnf)
    | (refine dsT (by assumption) ?_; conv => whnf)
    | (refine dsF (by assumption) ?_; conv => whnf)
    | (refine nsT (by assumption) ?_; conv => whnf)
    | (refine nsF (by assumption) ?_; conv => whnf)
    | (refine bsT (by assumption) ?_; conv => whnf)
    | (refine bsF (by assumption) ?_; conv => whnf)
    | (refine dsp ?_ ?_ <;> intro _ <;> conv => whnf)
    | (refine nsp ?_ ?_ <;> intro _ <;> conv => whnf)
    | (refine cnd_true (by assumption) ?_; conv => whnf)
    | (refine cnd_false (by assumption) ?_; conv => whnf)
    | (refine cnd_split ?_ ?_ <;> intro _ <;> conv => whnf)
    | (refine Cd.par tabOk (by kernel_rfl) (by kernel_rfl) ?_; conv => whnf)
    | (refine Fc.use (hck) ?_ ?_; (focus ((repeat' constructor); done)); conv => whnf)
    | (refine CallQ.of (hck) ?_ ?_; (focus ((repeat' constructor); done)); conv => whnf))
  refine loopP tabOk (fun i : Nat => i ≤ a.slots.length ∧ ∀ x ∈ a.slots.take i, isN k s x = false)
    (fun i => ⟨[(11, iv i), (10, iv (a.slots.map Ent.sv).length), (9, ents a.slots), (0, .yld 5), (1, .loc 4 0)], []⟩)
    (fun i => ⟨6, [.c [iv a.cap, ents a.slots, ints a.index], .c [iv k], .c [ss s], .c [iv 0], .c [iv a.cap, ents a.slots, ints a.index], .lp ⟨.ready, none, F_arena_Find.ntmps, [(3, .loc 0 0), (4, .loc 1 0), (5, .loc 2 0), (6, .loc 3 0)], _, _, _⟩], []⟩)
    (fun i => a.slots.length - i) 0 ⟨Nat.zero_le _, by simp⟩ (by repeat' constructor) (fun _ => rfl) ?_
  rintro i ⟨hi, hp⟩
  conv => whnf
  refine dsp ?_ ?_ <;> intro hlt <;> conv => whnf
  · rw [hN] at hlt
    obtain ⟨x, hx⟩ : ∃ x, a.slots[i]? = some x := ⟨_, List.getElem?_eq_getElem (by omega)⟩
    repeat' (first
      | (refine bltG (by first | omega | (simp only [List.length_map] at *; omega)) ?_; conv => whnf)
      | (refine ndG (by assumption) ?_; conv => whnf)
      | (refine mulG ?_; conv => whnf)
      | (refine And.intro rfl ?_; conv => whnf)
      | (refine dsT (by assumption) ?_; conv => whnf)
      | (refine dsF (by assumption) ?_; conv => whnf)
      | (refine nsT (by assumption) ?_; conv => whnf)
      | (refine nsF (by assumption) ?_; conv => whnf)
      | (refine bsT (by assumption) ?_; conv => whnf)
      | (refine bsF (by assumption) ?_; conv => whnf)
      | (refine dsp ?_ ?_ <;> intro _ <;> conv => whnf)
      | (refine nsp ?_ ?_ <;> intro _ <;> conv => whnf)
      | (refine cnd_true (by assumption) ?_; conv => whnf)
      | (refine cnd_false (by assumption) ?_; conv => whnf)
      | (refine cnd_split ?_ ?_ <;> intro _ <;> conv => whnf)
      | (refine Cd.par tabOk (by kernel_rfl) (by kernel_rfl) ?_; conv => whnf)
      | (refine RdQ.of_vc tabOk ?_; (conv => whnf); intro _; conv => whnf))
    · rw [show findZ a.slots k s = i by unfold findZ; rw [findIdx_at hx (by unfold isN; simp [*]) hp]]; rfl
    all_goals
      have hp' : ∀ y ∈ a.slots.take (i + 1), isN k s y = false := by
        rw [List.take_add_one, hx]
        intro y hy
        rcases List.mem_append.1 hy with hy | hy
        · exact hp y hy
        · simp at hy; subst hy; unfold isN; simp [*]
    · refine ⟨i + 1, ⟨by omega, hp'⟩, ?_, ⟨?_, rfl, ?_, ?_, rfl, ?_⟩⟩
      · first | omega | (simp only [List.length_map] at *; omega)
      · (repeat' constructor) <;> first | (refine ivW ?_ ?_ ?_ <;> first | omega | (dsimp only; omega))
      · (repeat' (first | constructor))
      · repeat' constructor
      · first | exact .inl rfl | exact .inr ⟨by simp [blwE, blw, blwL, blwB, blwX, blwR, blw_iv, blw_ints, blw_ents, blw_ent, blw_val, blw_ar, blwL_map (blw_ent _), blwL_map (blw_iv _), sb, ss] <;> rfl, rfl, by simp [blwE, blw, blwL, blwB, blwX, blwR, blw_iv, blw_ints, blw_ents, blw_ent, blw_val, blw_ar, blwL_map (blw_ent _), blwL_map (blw_iv _), sb, ss] <;> rfl, by simp [blwE, blw, blwL, blwB, blwX, blwR, blw_iv, blw_ints, blw_ents, blw_ent, blw_val, blw_ar, blwL_map (blw_ent _), blwL_map (blw_iv _), sb, ss]⟩
    · refine ⟨i + 1, ⟨by omega, hp'⟩, ?_, ⟨?_, rfl, ?_, ?_, rfl, ?_⟩⟩
      · first | omega | (simp only [List.length_map] at *; omega)
      · (repeat' constructor) <;> first | (refine ivW ?_ ?_ ?_ <;> first | omega | (dsimp only; omega))
      · (repeat' (first | constructor))
      · repeat' constructor
      · first | exact .inl rfl | exact .inr ⟨by simp [blwE, blw, blwL, blwB, blwX, blwR, blw_iv, blw_ints, blw_ents, blw_ent, blw_val, blw_ar, blwL_map (blw_ent _), blwL_map (blw_iv _), sb, ss] <;> rfl, rfl, by simp [blwE, blw, blwL, blwB, blwX, blwR, blw_iv, blw_ints, blw_ents, blw_ent, blw_val, blw_ar, blwL_map (blw_ent _), blwL_map (blw_iv _), sb, ss] <;> rfl, by simp [blwE, blw, blwL, blwB, blwX, blwR, blw_iv, blw_ints, blw_ents, blw_ent, blw_val, blw_ar, blwL_map (blw_ent _), blwL_map (blw_iv _), sb, ss]⟩
  · rw [hN] at hlt
    have hie : i = a.slots.length := by omega
    subst hie
    rw [List.take_of_length_le (Nat.le_refl _)] at hp
    repeat' (first
      | (refine bltG (by first | omega | (simp only [List.length_map] at *; omega)) ?_; conv => whnf)
      | (refine ndG (by assumption) ?_; conv => whnf)
      | (refine mulG ?_; conv => whnf)
      | (refine And.intro rfl ?_; conv => whnf)
      | (refine dsT (by assumption) ?_; conv => whnf)
      | (refine dsF (by assumption) ?_; conv => whnf)
      | (refine nsT (by assumption) ?_; conv => whnf)
      | (refine nsF (by assumption) ?_; conv => whnf)
      | (refine bsT (by assumption) ?_; conv => whnf)
      | (refine bsF (by assumption) ?_; conv => whnf)
      | (refine dsp ?_ ?_ <;> intro _ <;> conv => whnf)
      | (refine nsp ?_ ?_ <;> intro _ <;> conv => whnf)
      | (refine cnd_true (by assumption) ?_; conv => whnf)
      | (refine cnd_false (by assumption) ?_; conv => whnf)
      | (refine cnd_split ?_ ?_ <;> intro _ <;> conv => whnf)
      | (refine Cd.par tabOk (by kernel_rfl) (by kernel_rfl) ?_; conv => whnf))
    rw [show findZ a.slots k s = -1 by unfold findZ; rw [findIdx_no hp]]
    rfl
theorem c_arena_Find0 (a : Ar) (ha : a.bd) (hk : ¬ arOk a) (k : Int) (s : ByteArray) : Fc Tryz.prog n_arena_Find [a.sv, iv k, ss s] (iv (-1)) := by
  have hck := c_arena_Check a ha
  have h0 : ¬ (if arOk a then (0 : Int) else 2) = 0 := by rw [if_neg hk]; omega
  refine Fc.of_body tabOk q_arena_Find (by kernel_rfl) ((blwL_cons (blw_ar 0 a) (blwL_cons rfl (blwL_one rfl)))) (rfl) ?_
  conv => whnf
  repeat' (first
    | (refine bltG (by first | omega | (simp only [List.length_map] at *; omega)) ?_; conv => whnf)
    | (refine ndG (by assumption) ?_; conv => whnf)
    | (refine mulG ?_; conv => whnf)
    | (refine And.intro rfl ?_; conv => whnf)
    | (refine dsT (by assumption) ?_; conv => whnf)
    | (refine dsF (by assumption) ?_; conv => whnf)
    | (refine nsT (by assumption) ?_; conv => whnf)
    | (refine nsF (by assumption) ?_; conv => whnf)
    | (refine bsT (by assumption) ?_; conv => whnf)
    | (refine bsF (by assumption) ?_; conv => whnf)
    | (refine dsp ?_ ?_ <;> intro _ <;> conv => whnf)
    | (refine nsp ?_ ?_ <;> intro _ <;> conv => whnf)
    | (refine cnd_true (by assumption) ?_; conv => whnf)
    | (refine cnd_false (by assumption) ?_; conv => whnf)
    | (refine cnd_split ?_ ?_ <;> intro _ <;> conv => whnf)
    | (refine Cd.par tabOk (by kernel_rfl) (by kernel_rfl) ?_; conv => whnf)
    | (refine Tr.of_body tabOk q_arena_each (by kernel_rfl) ?_; conv => whnf))
  refine Cd.rangeFunc [(3, .loc 0 0), (4, .loc 1 0), (5, .loc 2 0), (6, .loc 3 0)] (by repeat' constructor) ?_
  conv => whnf
  refine And.intro ⟨_, q_arena_each_1, by kernel_rfl⟩ ?_
  refine Tr.of_body tabOk q_arena_each_1 (by kernel_rfl) ?_
  conv => whnf
  repeat' (first
    | (refine bltG (by first | omega | (simp only [List.length_map] at *; omega)) ?_; conv => whnf)
    | (refine ndG (by assumption) ?_; conv => whnf)
    | (refine mulG ?_; conv => whnf)
    | (refine And.intro rfl ?_; conv => whnf)
    | (refine dsT (by assumption) ?_; conv => whnf)
    | (refine dsF (by assumption) ?_; conv => whnf)
    | (refine nsT (by assumption) ?_; conv => whnf)
    | (refine nsF (by assumption) ?_; conv => whnf)
    | (refine bsT (by assumption) ?_; conv => whnf)
    | (refine bsF (by assumption) ?_; conv => whnf)
    | (refine dsp ?_ ?_ <;> intro _ <;> conv => whnf)
    | (refine nsp ?_ ?_ <;> intro _ <;> conv => whnf)
    | (refine cnd_true (by assumption) ?_; conv => whnf)
    | (refine cnd_false (by assumption) ?_; conv => whnf)
    | (refine cnd_split ?_ ?_ <;> intro _ <;> conv => whnf)
    | (refine Cd.par tabOk (by kernel_rfl) (by kernel_rfl) ?_; conv => whnf)
    | (refine Fc.use (hck) ?_ ?_; (focus ((repeat' constructor); done)); conv => whnf)
    | (refine CallQ.of (hck) ?_ ?_; (focus ((repeat' constructor); done)); conv => whnf))
  rfl
end Go.Proofs.YtmjpidjdbofdjaaGreat

