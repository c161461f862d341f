import Derived.Test.YtmjpidjdbofdjaaGreatVl
/- Contracts: octet.Put of one byte, of two. -/
set_option linter.unusedVariables false
set_option linter.unusedSimpArgs false
set_option maxRecDepth 100000
set_option maxHeartbeats 4000000
namespace Go.Proofs.YtmjpidjdbofdjaaGreat
open Go Go.Sy
def bz1 : Nat → Int → List Int
  | 0, _ => List.replicate 1 0
  | i + 1, n => (bz1 i n).set i (by8 (sh i n))
theorem bz_len1 (n : Int) : ∀ i, (bz1 i n).length = 1
  | 0 => rfl
  | i + 1 => by rw [bz1, List.length_set]; exact bz_len1 n i
def octT1 (n : Int) : ByteArray := ⟨((bz1 1 n).map fun z => UInt8.ofNat z.toNat).toArray⟩
theorem octT_eq1 (n : Int) : u8s (bz1 1 n) = bytesSV (octT1 n) := by
  simp only [bz1, List.replicate, List.set, u8s, List.map, bytesSV, octT1]
  have h := fun x => by8_lo x
  have e : ∀ x : Int, ((UInt8.ofNat (by8 x).toNat).toNat : Int) = by8 x := fun x => by
    have := h x
    rw [UInt8.toNat_ofNat']
    omega
  simp only [e]
  rfl
def octOk1 (n : Int) : Prop := 0 ≤ n ∧ ¬ 0 < sh 1 n
instance (n : Int) : Decidable (octOk1 n) := by unfold octOk1; infer_instance
theorem c_octet_Put1 (n : Int) : Fc Tryz.prog n_octet_Put [iv n, iv 1] (.tup [ss (if octOk1 n then octT1 n else ⟨#[]⟩), iv (if octOk1 n then 0 else 1)]) := by
  refine Fc.of_body tabOk q_octet_Put (by kernel_rfl) (rfl) (rfl) ?_
  conv => whnf
  repeat' (first
    | (refine bltG (by first | omega | (simp only [List.length_map] at *; omega)) ?_; conv => whnf)
    | (refine ndG (by assumption) ?_; conv => whnf)
    | (refine mulG ?_; conv => whnf)
    | (refine And.intro rfl ?_; conv => whnf)
    | (refine dsT (by assumption) ?_; conv => whnf)
    | (refine dsF (by assumption) ?_; conv => whnf)
    | (refine nsT (by assumption) ?_; conv => whnf)
    | (refine nsF (by assumption) ?_; conv => whnf)
    | (refine bsT (by assumption) ?_; conv => whnf)
    | (refine bsF (by assumption) ?_; conv => whnf)
    | (refine dsp ?_ ?_ <;> intro _ <;> conv => whnf)
    | (refine nsp ?_ ?_ <;> intro _ <;> conv => whnf)
    | (refine cnd_true (by assumption) ?_; conv => whnf)
    | (refine cnd_false (by assumption) ?_; conv => whnf)
    | (refine cnd_split ?_ ?_ <;> intro _ <;> conv => whnf)
    | (refine Cd.par tabOk (by kernel_rfl) (by kernel_rfl) ?_; conv => whnf)
    | (refine Tr.of_body tabOk q_octet_parts (by kernel_rfl) ?_; conv => whnf))
  · have h : ¬ octOk1 n := fun h => by have := h.1; omega
    rw [if_neg h, if_neg h]
    repeat' constructor
  refine And.intro ⟨by decide, by decide, by decide, rfl, rfl⟩ fun g => ?_
  conv => whnf
  repeat' (first
    | (refine bltG (by first | omega | (simp only [List.length_map] at *; omega)) ?_; conv => whnf)
    | (refine ndG (by assumption) ?_; conv => whnf)
    | (refine mulG ?_; conv => whnf)
    | (refine And.intro rfl ?_; conv => whnf)
    | (refine dsT (by assumption) ?_; conv => whnf)
    | (refine dsF (by assumption) ?_; conv => whnf)
    | (refine nsT (by assumption) ?_; conv => whnf)
    | (refine nsF (by assumption) ?_; conv => whnf)
    | (refine bsT (by assumption) ?_; conv => whnf)
    | (refine bsF (by assumption) ?_; conv => whnf)
    | (refine dsp ?_ ?_ <;> intro _ <;> conv => whnf)
    | (refine nsp ?_ ?_ <;> intro _ <;> conv => whnf)
    | (refine cnd_true (by assumption) ?_; conv => whnf)
    | (refine cnd_false (by assumption) ?_; conv => whnf)
    | (refine cnd_split ?_ ?_ <;> intro _ <;> conv => whnf)
    | (refine Cd.par tabOk (by kernel_rfl) (by kernel_rfl) ?_; conv => whnf)
    | (refine Tr.of_body tabOk q_octet_parts (by kernel_rfl) ?_; conv => whnf))
  refine Cd.rangeFunc [(3, .loc 0 0), (4, .loc 1 0), (5, .loc 2 0), (6, .loc 3 0)] (by repeat' constructor) ?_
  conv => whnf
  refine And.intro ⟨_, q_octet_parts_1, by kernel_rfl⟩ ?_
  refine Tr.of_body tabOk q_octet_parts_1 (by kernel_rfl) ?_
  conv => whnf
  generalize hLr : List.replicate 1 (SV.v (.int .u8 0)) = es0
  refine loopP tabOk (fun i : Nat => i ≤ 1) (fun i => ⟨[(6, iv i), (5, iv 1), (0, .yld 6), (1, .loc 5 0), (2, .loc 4 0)], []⟩)
    (fun i => ⟨7, [.c [iv 1], .c [ss ⟨#[]⟩], .c [iv 0], .c [.own 0 (some ⟨g, 0, none⟩) 1 1], .c [iv (sh i n)], .c [iv 1], .lp ⟨.ready, none, F_octet_Put.ntmps, [(3, .loc 0 0), (4, .loc 1 0), (5, .loc 2 0), (6, .loc 3 0)], _, _, _⟩], [⟨some ⟨g, 0, none⟩, 1, 1, t_uint8, 1, u8s (bz1 i n), false⟩]⟩) (fun i => 1 - i) 0 (by omega) (by subst hLr; repeat' constructor) (fun _ => rfl) ?_
  intro i hi
  conv => whnf
  refine dsp ?_ ?_ <;> intro hlt <;> conv => whnf
  · obtain ⟨x, hx⟩ : ∃ x, (bz1 i n)[i]? = some x := ⟨_, List.getElem?_eq_getElem (by rw [bz_len1]; omega)⟩
    repeat' (first
      | (refine bltG (by first | omega | (simp only [List.length_map] at *; omega)) ?_; conv => whnf)
      | (refine ndG (by assumption) ?_; conv => whnf)
      | (refine mulG ?_; conv => whnf)
      | (refine And.intro rfl ?_; conv => whnf)
      | (refine dsT (by assumption) ?_; conv => whnf)
      | (refine dsF (by assumption) ?_; conv => whnf)
      | (refine nsT (by assumption) ?_; conv => whnf)
      | (refine nsF (by assumption) ?_; conv => whnf)
      | (refine bsT (by assumption) ?_; conv => whnf)
      | (refine bsF (by assumption) ?_; conv => whnf)
      | (refine dsp ?_ ?_ <;> intro _ <;> conv => whnf)
      | (refine nsp ?_ ?_ <;> intro _ <;> conv => whnf)
      | (refine cnd_true (by assumption) ?_; conv => whnf)
      | (refine cnd_false (by assumption) ?_; conv => whnf)
      | (refine cnd_split ?_ ?_ <;> intro _ <;> conv => whnf)
      | (refine Cd.par tabOk (by kernel_rfl) (by kernel_rfl) ?_; conv => whnf)
      | (refine RdQ.of_vc tabOk ?_; (conv => whnf); intro _; conv => whnf))
    refine ⟨i + 1, by omega, ?_, ?_⟩
    · first | omega | (simp only [List.length_map] at *; omega)
    · (repeat' constructor) <;> first | (refine ivW ?_ ?_ ?_ <;> first | omega | (dsimp only; omega)) | exact rowEq (by show u8s (bz1 (i + 1) n) = (u8s (bz1 i n)).set i (u8v (by8 (sh i n))); rw [u8s_set]; rfl)
  · obtain rfl : i = 1 := by omega
    repeat' (first
      | (refine bltG (by first | omega | (simp only [List.length_map] at *; omega)) ?_; conv => whnf)
      | (refine ndG (by assumption) ?_; conv => whnf)
      | (refine mulG ?_; conv => whnf)
      | (refine And.intro rfl ?_; conv => whnf)
      | (refine dsT (by assumption) ?_; conv => whnf)
      | (refine dsF (by assumption) ?_; conv => whnf)
      | (refine nsT (by assumption) ?_; conv => whnf)
      | (refine nsF (by assumption) ?_; conv => whnf)
      | (refine bsT (by assumption) ?_; conv => whnf)
      | (refine bsF (by assumption) ?_; conv => whnf)
      | (refine dsp ?_ ?_ <;> intro _ <;> conv => whnf)
      | (refine nsp ?_ ?_ <;> intro _ <;> conv => whnf)
      | (refine cnd_true (by assumption) ?_; conv => whnf)
      | (refine cnd_false (by assumption) ?_; conv => whnf)
      | (refine cnd_split ?_ ?_ <;> intro _ <;> conv => whnf)
      | (refine Cd.par tabOk (by kernel_rfl) (by kernel_rfl) ?_; conv => whnf)
      | (refine RdQ.of_vc tabOk ?_; (conv => whnf); intro _; conv => whnf))
    · have h : ¬ octOk1 n := fun h => h.2 (by assumption)
      rw [if_neg h, if_neg h]
      repeat' constructor
    · refine ⟨octT1 n, octT_eq1 n, ?_⟩
      conv => whnf
      have h : octOk1 n := ⟨by omega, by assumption⟩
      rw [if_pos h, if_pos h]
      repeat' constructor
theorem octT1_size (n : Int) : (octT1 n).size = 1 := by
  simp [octT1, ByteArray.size, bz_len1]
theorem o1P {n : Int} (h : octOk1 n) : Fc Tryz.prog n_octet_Put [iv n, iv 1] (.tup [ss (octT1 n), iv 0]) := by
  have := c_octet_Put1 n; rw [if_pos h, if_pos h] at this; exact this

def bz2 : Nat → Int → List Int
  | 0, _ => List.replicate 2 0
  | i + 1, n => (bz2 i n).set i (by8 (sh i n))
theorem bz_len2 (n : Int) : ∀ i, (bz2 i n).length = 2
  | 0 => rfl
  | i + 1 => by rw [bz2, List.length_set]; exact bz_len2 n i
def octT2 (n : Int) : ByteArray := ⟨((bz2 2 n).map fun z => UInt8.ofNat z.toNat).toArray⟩
theorem octT_eq2 (n : Int) : u8s (bz2 2 n) = bytesSV (octT2 n) := by
  simp only [bz2, List.replicate, List.set, u8s, List.map, bytesSV, octT2]
  have h := fun x => by8_lo x
  have e : ∀ x : Int, ((UInt8.ofNat (by8 x).toNat).toNat : Int) = by8 x := fun x => by
    have := h x
    rw [UInt8.toNat_ofNat']
    omega
  simp only [e]
  rfl
def octOk2 (n : Int) : Prop := 0 ≤ n ∧ ¬ 0 < sh 2 n
instance (n : Int) : Decidable (octOk2 n) := by unfold octOk2; infer_instance
theorem c_octet_Put2 (n : Int) : Fc Tryz.prog n_octet_Put [iv n, iv 2] (.tup [ss (if octOk2 n then octT2 n else ⟨#[]⟩), iv (if octOk2 n then 0 else 1)]) := by
  refine Fc.of_body tabOk q_octet_Put (by kernel_rfl) (rfl) (rfl) ?_
  conv => whnf
  repeat' (first
    | (refine bltG (by first | omega | (simp only [List.length_map] at *; omega)) ?_; conv => whnf)
    | (refine ndG (by assumption) ?_; conv => whnf)
    | (refine mulG ?_; conv => whnf)
    | (refine And.intro rfl ?_; conv => whnf)
    | (refine dsT (by assumption) ?_; conv => whnf)
    | (refine dsF (by assumption) ?_; conv => whnf)
    | (refine nsT (by assumption) ?_; conv => whnf)
    | (refine nsF (by assumption) ?_; conv => whnf)
    | (refine bsT (by assumption) ?_; conv => whnf)
    | (refine bsF (by assumption) ?_; conv => whnf)
    | (refine dsp ?_ ?_ <;> intro _ <;> conv => whnf)
    | (refine nsp ?_ ?_ <;> intro _ <;> conv => whnf)
    | (refine cnd_true (by assumption) ?_; conv => whnf)
    | (refine cnd_false (by assumption) ?_; conv => whnf)
    | (refine cnd_split ?_ ?_ <;> intro _ <;> conv => whnf)
    | (refine Cd.par tabOk (by kernel_rfl) (by kernel_rfl) ?_; conv => whnf)
    | (refine Tr.of_body tabOk q_octet_parts (by kernel_rfl) ?_; conv => whnf))
  · have h : ¬ octOk2 n := fun h => by have := h.1; omega
    rw [if_neg h, if_neg h]
    repeat' constructor
  refine And.intro ⟨by decide, by decide, by decide, rfl, rfl⟩ fun g => ?_
  conv => whnf
  repeat' (first
    | (refine bltG (by first | omega | (simp only [List.length_map] at *; omega)) ?_; conv => whnf)
    | (refine ndG (by assumption) ?_; conv => whnf)
    | (refine mulG ?_; conv => whnf)
    | (refine And.intro rfl ?_; conv => whnf)
    | (refine dsT (by assumption) ?_; conv => whnf)
    | (refine dsF (by assumption) ?_; conv => whnf)
    | (refine nsT (by assumption) ?_; conv => whnf)
    | (refine nsF (by assumption) ?_; conv => whnf)
    | (refine bsT (by assumption) ?_; conv => whnf)
    | (refine bsF (by assumption) ?_; conv => whnf)
    | (refine dsp ?_ ?_ <;> intro _ <;> conv => whnf)
    | (refine nsp ?_ ?_ <;> intro _ <;> conv => whnf)
    | (refine cnd_true (by assumption) ?_; conv => whnf)
    | (refine cnd_false (by assumption) ?_; conv => whnf)
    | (refine cnd_split ?_ ?_ <;> intro _ <;> conv => whnf)
    | (refine Cd.par tabOk (by kernel_rfl) (by kernel_rfl) ?_; conv => whnf)
    | (refine Tr.of_body tabOk q_octet_parts (by kernel_rfl) ?_; conv => whnf))
  refine Cd.rangeFunc [(3, .loc 0 0), (4, .loc 1 0), (5, .loc 2 0), (6, .loc 3 0)] (by repeat' constructor) ?_
  conv => whnf
  refine And.intro ⟨_, q_octet_parts_1, by kernel_rfl⟩ ?_
  refine Tr.of_body tabOk q_octet_parts_1 (by kernel_rfl) ?_
  conv => whnf
  generalize hLr : List.replicate 2 (SV.v (.int .u8 0)) = es0
  refine loopP tabOk (fun i : Nat => i ≤ 2) (fun i => ⟨[(6, iv i), (5, iv 2), (0, .yld 6), (1, .loc 5 0), (2, .loc 4 0)], []⟩)
    (fun i => ⟨7, [.c [iv 2], .c [ss ⟨#[]⟩], .c [iv 0], .c [.own 0 (some ⟨g, 0, none⟩) 2 2], .c [iv (sh i n)], .c [iv 2], .lp ⟨.ready, none, F_octet_Put.ntmps, [(3, .loc 0 0), (4, .loc 1 0), (5, .loc 2 0), (6, .loc 3 0)], _, _, _⟩], [⟨some ⟨g, 0, none⟩, 2, 2, t_uint8, 1, u8s (bz2 i n), false⟩]⟩) (fun i => 2 - i) 0 (by omega) (by subst hLr; repeat' constructor) (fun _ => rfl) ?_
  intro i hi
  conv => whnf
  refine dsp ?_ ?_ <;> intro hlt <;> conv => whnf
  · obtain ⟨x, hx⟩ : ∃ x, (bz2 i n)[i]? = some x := ⟨_, List.getElem?_eq_getElem (by rw [bz_len2]; omega)⟩
    repeat' (first
      | (refine bltG (by first | omega | (simp only [List.length_map] at *; omega)) ?_; conv => whnf)
      | (refine ndG (by assumption) ?_; conv => whnf)
      | (refine mulG ?_; conv => whnf)
      | (refine And.intro rfl ?_; conv => whnf)
      | (refine dsT (by assumption) ?_; conv => whnf)
      | (refine dsF (by assumption) ?_; conv => whnf)
      | (refine nsT (by assumption) ?_; conv => whnf)
      | (refine nsF (by assumption) ?_; conv => whnf)
      | (refine bsT (by assumption) ?_; conv => whnf)
      | (refine bsF (by assumption) ?_; conv => whnf)
      | (refine dsp ?_ ?_ <;> intro _ <;> conv => whnf)
      | (refine nsp ?_ ?_ <;> intro _ <;> conv => whnf)
      | (refine cnd_true (by assumption) ?_; conv => whnf)
      | (refine cnd_false (by assumption) ?_; conv => whnf)
      | (refine cnd_split ?_ ?_ <;> intro _ <;> conv => whnf)
      | (refine Cd.par tabOk (by kernel_rfl) (by kernel_rfl) ?_; conv => whnf)
      | (refine RdQ.of_vc tabOk ?_; (conv => whnf); intro _; conv => whnf))
    refine ⟨i + 1, by omega, ?_, ?_⟩
    · first | omega | (simp only [List.length_map] at *; omega)
    · (repeat' constructor) <;> first | (refine ivW ?_ ?_ ?_ <;> first | omega | (dsimp only; omega)) | exact rowEq (by show u8s (bz2 (i + 1) n) = (u8s (bz2 i n)).set i (u8v (by8 (sh i n))); rw [u8s_set]; rfl)
  · obtain rfl : i = 2 := by omega
    repeat' (first
      | (refine bltG (by first | omega | (simp only [List.length_map] at *; omega)) ?_; conv => whnf)
      | (refine ndG (by assumption) ?_; conv => whnf)
      | (refine mulG ?_; conv => whnf)
      | (refine And.intro rfl ?_; conv => whnf)
      | (refine dsT (by assumption) ?_; conv => whnf)
      | (refine dsF (by assumption) ?_; conv => whnf)
      | (refine nsT (by assumption) ?_; conv => whnf)
      | (refine nsF (by assumption) ?_; conv => whnf)
      | (refine bsT (by assumption) ?_; conv => whnf)
      | (refine bsF (by assumption) ?_; conv => whnf)
      | (refine dsp ?_ ?_ <;> intro _ <;> conv => whnf)
      | (refine nsp ?_ ?_ <;> intro _ <;> conv => whnf)
      | (refine cnd_true (by assumption) ?_; conv => whnf)
      | (refine cnd_false (by assumption) ?_; conv => whnf)
      | (refine cnd_split ?_ ?_ <;> intro _ <;> conv => whnf)
      | (refine Cd.par tabOk (by kernel_rfl) (by kernel_rfl) ?_; conv => whnf)
      | (refine RdQ.of_vc tabOk ?_; (conv => whnf); intro _; conv => whnf))
    · have h : ¬ octOk2 n := fun h => h.2 (by assumption)
      rw [if_neg h, if_neg h]
      repeat' constructor
    · refine ⟨octT2 n, octT_eq2 n, ?_⟩
      conv => whnf
      have h : octOk2 n := ⟨by omega, by assumption⟩
      rw [if_pos h, if_pos h]
      repeat' constructor
theorem octT2_size (n : Int) : (octT2 n).size = 2 := by
  simp [octT2, ByteArray.size, bz_len2]
theorem o2P {n : Int} (h : octOk2 n) : Fc Tryz.prog n_octet_Put [iv n, iv 2] (.tup [ss (octT2 n), iv 0]) := by
  have := c_octet_Put2 n; rw [if_pos h, if_pos h] at this; exact this

end Go.Proofs.YtmjpidjdbofdjaaGreat

