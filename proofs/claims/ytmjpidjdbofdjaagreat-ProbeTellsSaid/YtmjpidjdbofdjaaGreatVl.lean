import Derived.Test.YtmjpidjdbofdjaaGreatVj
/- Contracts: octet.Put, digest.Put. -/
set_option linter.unusedVariables false
set_option linter.unusedSimpArgs false
/- Contracts: octet.Put. -/
set_option maxRecDepth 100000
set_option maxHeartbeats 4000000
namespace Go.Proofs.YtmjpidjdbofdjaaGreat
open Go Go.Sy
def s8 (x : Int) : Int := x.fdiv (2 ^ (min 8 64))
def sh : Nat → Int → Int
  | 0, n => n
  | i + 1, n => s8 (sh i n)
def by8 (x : Int) : Int := IntKind.u8.wrap (bitI BinOp.and IntKind.i64 x 255)
def u8v (z : Int) : SV := .v (.int .u8 z)
def bz : Nat → Int → List Int
  | 0, _ => List.replicate 4 0
  | i + 1, n => (bz i n).set i (by8 (sh i n))
theorem bz_len (n : Int) : ∀ i, (bz i n).length = 4
  | 0 => rfl
  | i + 1 => by rw [bz, List.length_set]; exact bz_len n i
def u8s (l : List Int) : List SV := l.map u8v
theorem u8s_set (es : List Int) (i : Nat) (k : Int) : (u8s es).set i (u8v k) = u8s (es.set i k) := by simp [u8s]
def octT (n : Int) : ByteArray := ⟨((bz 4 n).map fun z => UInt8.ofNat z.toNat).toArray⟩
theorem by8_lo (x : Int) : 0 ≤ by8 x ∧ by8 x < 256 := by unfold by8; rw [IntKind.wrap_u8]; omega
theorem octT_eq (n : Int) : u8s (bz 4 n) = bytesSV (octT n) := by
  simp only [bz, List.replicate, List.set, u8s, List.map, bytesSV, octT]
  have h := fun x => by8_lo x
  have e : ∀ x : Int, ((UInt8.ofNat (by8 x).toNat).toNat : Int) = by8 x := fun x => by
    have := h x
    rw [UInt8.toNat_ofNat']
    omega
  simp only [e]
  rfl
def octOk (n : Int) : Prop := 0 ≤ n ∧ ¬ 0 < sh 4 n
instance (n : Int) : Decidable (octOk n) := by unfold octOk; infer_instance
theorem c_octet_Put (n : Int) : Fc Tryz.prog n_octet_Put [iv n, iv 4] (.tup [ss (if octOk n then octT n else ⟨#[]⟩), iv (if octOk n then 0 else 1)]) := by
  refine Fc.of_body tabOk q_octet_Put (by kernel_rfl) (rfl) (rfl) ?_
  conv => whnf
  repeat' (first
    | (refine bltG (by first | omega | (simp only [List.length_map] at *; omega)) ?_; conv => whnf)
    | (refine ndG (by assumption) ?_; conv => whnf)
    | (refine mulG ?_; conv => whnf)
    | (refine And.intro rfl ?_; conv => whnf)
    | (refine dsT (by assumption) ?_; conv => whnf)
    | (refine dsF (by assumption) ?_; conv => whnf)
    | (refine nsT (by assumption) ?_; conv => whnf)
    | (refine nsF (by assumption) ?_; conv => whnf)
    | (refine bsT (by assumption) ?_; conv => whnf)
    | (refine bsF (by assumption) ?_; conv => whnf)
    | (refine dsp ?_ ?_ <;> intro _ <;> conv => whnf)
    | (refine nsp ?_ ?_ <;> intro _ <;> conv => whnf)
    | (refine cnd_true (by assumption) ?_; conv => whnf)
    | (refine cnd_false (by assumption) ?_; conv => whnf)
    | (refine cnd_split ?_ ?_ <;> intro _ <;> conv => whnf)
    | (refine Cd.par tabOk (by kernel_rfl) (by kernel_rfl) ?_; conv => whnf)
    | (refine Tr.of_body tabOk q_octet_parts (by kernel_rfl) ?_; conv => whnf))
  · have h : ¬ octOk n := fun h => by have := h.1; omega
    rw [if_neg h, if_neg h]
    repeat' constructor
  refine And.intro ⟨by decide, by decide, by decide, rfl, rfl⟩ fun g => ?_
  conv => whnf
  repeat' (first
    | (refine bltG (by first | omega | (simp only [List.length_map] at *; omega)) ?_; conv => whnf)
    | (refine ndG (by assumption) ?_; conv => whnf)
    | (refine mulG ?_; conv => whnf)
    | (refine And.intro rfl ?_; conv => whnf)
    | (refine dsT (by assumption) ?_; conv => whnf)
    | (refine dsF (by assumption) ?_; conv => whnf)
    | (refine nsT (by assumption) ?_; conv => whnf)
    | (refine nsF (by assumption) ?_; conv => whnf)
    | (refine bsT (by assumption) ?_; conv => whnf)
    | (refine bsF (by assumption) ?_; conv => whnf)
    | (refine dsp ?_ ?_ <;> intro _ <;> conv => whnf)
    | (refine nsp ?_ ?_ <;> intro _ <;> conv => whnf)
    | (refine cnd_true (by assumption) ?_; conv => whnf)
    | (refine cnd_false (by assumption) ?_; conv => whnf)
    | (refine cnd_split ?_ ?_ <;> intro _ <;> conv => whnf)
    | (refine Cd.par tabOk (by kernel_rfl) (by kernel_rfl) ?_; conv => whnf)
    | (refine Tr.of_body tabOk q_octet_parts (by kernel_rfl) ?_; conv => whnf))
  refine Cd.rangeFunc [(3, .loc 0 0), (4, .loc 1 0), (5, .loc 2 0), (6, .loc 3 0)] (by repeat' constructor) ?_
  conv => whnf
  refine And.intro ⟨_, q_octet_parts_1, by kernel_rfl⟩ ?_
  refine Tr.of_body tabOk q_octet_parts_1 (by kernel_rfl) ?_
  conv => whnf
  generalize hLr : List.replicate 4 (SV.v (.int .u8 0)) = es0
  refine loopP tabOk (fun i : Nat => i ≤ 4) (fun i => ⟨[(6, iv i), (5, iv 4), (0, .yld 6), (1, .loc 5 0), (2, .loc 4 0)], []⟩)
    (fun i => ⟨7, [.c [iv 4], .c [ss ⟨#[]⟩], .c [iv 0], .c [.own 0 (some ⟨g, 0, none⟩) 4 4], .c [iv (sh i n)], .c [iv 4], .lp ⟨.ready, none, F_octet_Put.ntmps, [(3, .loc 0 0), (4, .loc 1 0), (5, .loc 2 0), (6, .loc 3 0)], _, _, _⟩], [⟨some ⟨g, 0, none⟩, 4, 4, t_uint8, 1, u8s (bz i n), false⟩]⟩) (fun i => 4 - i) 0 (by omega) (by subst hLr; repeat' constructor) (fun _ => rfl) ?_
  intro i hi
  conv => whnf
  refine dsp ?_ ?_ <;> intro hlt <;> conv => whnf
  · obtain ⟨x, hx⟩ : ∃ x, (bz i n)[i]? = some x := ⟨_, List.getElem?_eq_getElem (by rw [bz_len]; omega)⟩
    repeat' (first
      | (refine bltG (by first | omega | (simp only [List.length_map] at *; omega)) ?_; conv => whnf)
      | (refine ndG (by assumption) ?_; conv => whnf)
      | (refine mulG ?_; conv => whnf)
      | (refine And.intro rfl ?_; conv => whnf)
      | (refine dsT (by assumption) ?_; conv => whnf)
      | (refine dsF (by assumption) ?_; conv => whnf)
      | (refine nsT (by assumption) ?_; conv => whnf)
      | (refine nsF (by assumption) ?_; conv => whnf)
      | (refine bsT (by assumption) ?_; conv => whnf)
      | (refine bsF (by assumption) ?_; conv => whnf)
      | (refine dsp ?_ ?_ <;> intro _ <;> conv => whnf)
      | (refine nsp ?_ ?_ <;> intro _ <;> conv => whnf)
      | (refine cnd_true (by assumption) ?_; conv => whnf)
      | (refine cnd_false (by assumption) ?_; conv => whnf)
      | (refine cnd_split ?_ ?_ <;> intro _ <;> conv => whnf)
      | (refine Cd.par tabOk (by kernel_rfl) (by kernel_rfl) ?_; conv => whnf)
      | (refine RdQ.of_vc tabOk ?_; (conv => whnf); intro _; conv => whnf))
    refine ⟨i + 1, by omega, ?_, ?_⟩
    · first | omega | (simp only [List.length_map] at *; omega)
    · (repeat' constructor) <;> first | (refine ivW ?_ ?_ ?_ <;> first | omega | (dsimp only; omega)) | exact rowEq (by show u8s (bz (i + 1) n) = (u8s (bz i n)).set i (u8v (by8 (sh i n))); rw [u8s_set]; rfl)
  · obtain rfl : i = 4 := by omega
    repeat' (first
      | (refine bltG (by first | omega | (simp only [List.length_map] at *; omega)) ?_; conv => whnf)
      | (refine ndG (by assumption) ?_; conv => whnf)
      | (refine mulG ?_; conv => whnf)
      | (refine And.intro rfl ?_; conv => whnf)
      | (refine dsT (by assumption) ?_; conv => whnf)
      | (refine dsF (by assumption) ?_; conv => whnf)
      | (refine nsT (by assumption) ?_; conv => whnf)
      | (refine nsF (by assumption) ?_; conv => whnf)
      | (refine bsT (by assumption) ?_; conv => whnf)
      | (refine bsF (by assumption) ?_; conv => whnf)
      | (refine dsp ?_ ?_ <;> intro _ <;> conv => whnf)
      | (refine nsp ?_ ?_ <;> intro _ <;> conv => whnf)
      | (refine cnd_true (by assumption) ?_; conv => whnf)
      | (refine cnd_false (by assumption) ?_; conv => whnf)
      | (refine cnd_split ?_ ?_ <;> intro _ <;> conv => whnf)
      | (refine Cd.par tabOk (by kernel_rfl) (by kernel_rfl) ?_; conv => whnf)
      | (refine RdQ.of_vc tabOk ?_; (conv => whnf); intro _; conv => whnf))
    · have h : ¬ octOk n := fun h => h.2 (by assumption)
      rw [if_neg h, if_neg h]
      repeat' constructor
    · refine ⟨octT n, octT_eq n, ?_⟩
      conv => whnf
      have h : octOk n := ⟨by omega, by assumption⟩
      rw [if_pos h, if_pos h]
      repeat' constructor
def dig (a b c d : Int) : SV := .agg [iv a, iv b, iv c, iv d]
def digOk (a b c d : Int) : Prop := octOk a ∧ octOk b ∧ octOk c ∧ octOk d
instance (a b c d : Int) : Decidable (digOk a b c d) := by unfold digOk; infer_instance
theorem octT_size (n : Int) : (octT n).size = 4 := by
  simp [octT, ByteArray.size, bz_len]
theorem oP1 {n : Int} (h : octOk n) : Fc Tryz.prog n_octet_Put [iv n, iv 4] (.tup [ss (octT n), iv 0]) := by
  have := c_octet_Put n; rw [if_pos h, if_pos h] at this; exact this
theorem oP0 {n : Int} (h : ¬ octOk n) : Fc Tryz.prog n_octet_Put [iv n, iv 4] (.tup [ss ⟨#[]⟩, iv 1]) := by
  have := c_octet_Put n; rw [if_neg h, if_neg h] at this; exact this
theorem addSz {a b : ByteArray} {K : Prop} (h : a.size + b.size ≤ 9223372036854775807) (k : K) : a.size + b.size ≤ 9223372036854775807 ∧ K := ⟨h, k⟩
end Go.Proofs.YtmjpidjdbofdjaaGreat

/- Contracts: digest.Put. -/
set_option maxRecDepth 100000
set_option maxHeartbeats 400000
namespace Go.Proofs.YtmjpidjdbofdjaaGreat
open Go Go.Sy
def digT (a b c d : Int) : ByteArray := ⟨#[]⟩ ++ octT a ++ octT b ++ octT c ++ octT d
theorem c_digest_Put (a b c d : Int) : Fc Tryz.prog n_digest_Put [dig a b c d] (.tup [ss (if digOk a b c d then digT a b c d else ⟨#[]⟩), iv (if digOk a b c d then 0 else 1)]) := by
  have e0 : (⟨#[]⟩ : ByteArray).size = 0 := rfl
  by_cases ha : octOk a
  case neg =>
    have h : ¬ digOk a b c d := fun h => ha h.1
    rw [if_neg h, if_neg h]
    refine Fc.of_body tabOk q_digest_Put (by kernel_rfl) (rfl) (rfl) ?_
    conv => whnf
    repeat' (first
      | (refine bltG (by first | omega | (simp only [List.length_map] at *; omega)) ?_; conv => whnf)
      | (refine ndG (by assumption) ?_; conv => whnf)
      | (refine mulG ?_; conv => whnf)
      | (refine And.intro rfl ?_; conv => whnf)
      | (refine dsT (by assumption) ?_; conv => whnf)
      | (refine dsF (by assumption) ?_; conv => whnf)
      | (refine nsT (by assumption) ?_; conv => whnf)
      | (refine nsF (by assumption) ?_; conv => whnf)
      | (refine bsT (by assumption) ?_; conv => whnf)
      | (refine bsF (by assumption) ?_; conv => whnf)
      | (refine dsp ?_ ?_ <;> intro _ <;> conv => whnf)
      | (refine nsp ?_ ?_ <;> intro _ <;> conv => whnf)
      | (refine cnd_true (by assumption) ?_; conv => whnf)
      | (refine cnd_false (by assumption) ?_; conv => whnf)
      | (refine cnd_split ?_ ?_ <;> intro _ <;> conv => whnf)
      | (refine Cd.par tabOk (by kernel_rfl) (by kernel_rfl) ?_; conv => whnf)
      | (refine Fc.use (oP0 ha) ?_ ?_; (focus ((repeat' constructor); done)); conv => whnf)
      | (refine CallQ.of (oP0 ha) ?_ ?_; (focus ((repeat' constructor); done)); conv => whnf)
      | (refine Cd.unroll tabOk 5 ?_; conv => whnf))
  by_cases hb : octOk b
  case neg =>
    have h : ¬ digOk a b c d := fun h => hb h.2.1
    rw [if_neg h, if_neg h]
    refine Fc.of_body tabOk q_digest_Put (by kernel_rfl) (rfl) (rfl) ?_
    conv => whnf
    repeat' (first
      | (refine bltG (by first | omega | (simp only [List.length_map] at *; omega)) ?_; conv => whnf)
      | (refine ndG (by assumption) ?_; conv => whnf)
      | (refine mulG ?_; conv => whnf)
      | (refine And.intro rfl ?_; conv => whnf)
      | (refine dsT (by assumption) ?_; conv => whnf)
      | (refine dsF (by assumption) ?_; conv => whnf)
      | (refine nsT (by assumption) ?_; conv => whnf)
      | (refine nsF (by assumption) ?_; conv => whnf)
      | (refine bsT (by assumption) ?_; conv => whnf)
      | (refine bsF (by assumption) ?_; conv => whnf)
      | (refine dsp ?_ ?_ <;> intro _ <;> conv => whnf)
      | (refine nsp ?_ ?_ <;> intro _ <;> conv => whnf)
      | (refine cnd_true (by assumption) ?_; conv => whnf)
      | (refine cnd_false (by assumption) ?_; conv => whnf)
      | (refine cnd_split ?_ ?_ <;> intro _ <;> conv => whnf)
      | (refine Cd.par tabOk (by kernel_rfl) (by kernel_rfl) ?_; conv => whnf)
      | (refine Fc.use (oP1 ha) ?_ ?_; (focus ((repeat' constructor); done)); conv => whnf)
      | (refine CallQ.of (oP1 ha) ?_ ?_; (focus ((repeat' constructor); done)); conv => whnf)
      | (refine Fc.use (oP0 hb) ?_ ?_; (focus ((repeat' constructor); done)); conv => whnf)
      | (refine CallQ.of (oP0 hb) ?_ ?_; (focus ((repeat' constructor); done)); conv => whnf)
      | (refine Cd.unroll tabOk 5 ?_; conv => whnf))
    refine addSz (by simp only [ByteArray.size_append, octT_size, e0]; omega) ?_
    conv => whnf
    repeat' (first
      | (refine bltG (by first | omega | (simp only [List.length_map] at *; omega)) ?_; conv => whnf)
      | (refine ndG (by assumption) ?_; conv => whnf)
      | (refine mulG ?_; conv => whnf)
      | (refine And.intro rfl ?_; conv => whnf)
      | (refine dsT (by assumption) ?_; conv => whnf)
      | (refine dsF (by assumption) ?_; conv => whnf)
      | (refine nsT (by assumption) ?_; conv => whnf)
      | (refine nsF (by assumption) ?_; conv => whnf)
      | (refine bsT (by assumption) ?_; conv => whnf)
      | (refine bsF (by assumption) ?_; conv => whnf)
      | (refine dsp ?_ ?_ <;> intro _ <;> conv => whnf)
      | (refine nsp ?_ ?_ <;> intro _ <;> conv => whnf)
      | (refine cnd_true (by assumption) ?_; conv => whnf)
      | (refine cnd_false (by assumption) ?_; conv => whnf)
      | (refine cnd_split ?_ ?_ <;> intro _ <;> conv => whnf)
      | (refine Cd.par tabOk (by kernel_rfl) (by kernel_rfl) ?_; conv => whnf)
      | (refine Fc.use (oP0 hb) ?_ ?_; (focus ((repeat' constructor); done)); conv => whnf)
      | (refine CallQ.of (oP0 hb) ?_ ?_; (focus ((repeat' constructor); done)); conv => whnf))
  by_cases hc : octOk c
  case neg =>
    have h : ¬ digOk a b c d := fun h => hc h.2.2.1
    rw [if_neg h, if_neg h]
    refine Fc.of_body tabOk q_digest_Put (by kernel_rfl) (rfl) (rfl) ?_
    conv => whnf
    repeat' (first
      | (refine bltG (by first | omega | (simp only [List.length_map] at *; omega)) ?_; conv => whnf)
      | (refine ndG (by assumption) ?_; conv => whnf)
      | (refine mulG ?_; conv => whnf)
      | (refine And.intro rfl ?_; conv => whnf)
      | (refine dsT (by assumption) ?_; conv => whnf)
      | (refine dsF (by assumption) ?_; conv => whnf)
      | (refine nsT (by assumption) ?_; conv => whnf)
      | (refine nsF (by assumption) ?_; conv => whnf)
      | (refine bsT (by assumption) ?_; conv => whnf)
      | (refine bsF (by assumption) ?_; conv => whnf)
      | (refine dsp ?_ ?_ <;> intro _ <;> conv => whnf)
      | (refine nsp ?_ ?_ <;> intro _ <;> conv => whnf)
      | (refine cnd_true (by assumption) ?_; conv => whnf)
      | (refine cnd_false (by assumption) ?_; conv => whnf)
      | (refine cnd_split ?_ ?_ <;> intro _ <;> conv => whnf)
      | (refine Cd.par tabOk (by kernel_rfl) (by kernel_rfl) ?_; conv => whnf)
      | (refine Fc.use (oP1 ha) ?_ ?_; (focus ((repeat' constructor); done)); conv => whnf)
      | (refine CallQ.of (oP1 ha) ?_ ?_; (focus ((repeat' constructor); done)); conv => whnf)
      | (refine Cd.unroll tabOk 5 ?_; conv => whnf))
    refine addSz (by simp only [ByteArray.size_append, octT_size, e0]; omega) ?_
    conv => whnf
    repeat' (first
      | (refine bltG (by first | omega | (simp only [List.length_map] at *; omega)) ?_; conv => whnf)
      | (refine ndG (by assumption) ?_; conv => whnf)
      | (refine mulG ?_; conv => whnf)
      | (refine And.intro rfl ?_; conv => whnf)
      | (refine dsT (by assumption) ?_; conv => whnf)
      | (refine dsF (by assumption) ?_; conv => whnf)
      | (refine nsT (by assumption) ?_; conv => whnf)
      | (refine nsF (by assumption) ?_; conv => whnf)
      | (refine bsT (by assumption) ?_; conv => whnf)
      | (refine bsF (by assumption) ?_; conv => whnf)
      | (refine dsp ?_ ?_ <;> intro _ <;> conv => whnf)
      | (refine nsp ?_ ?_ <;> intro _ <;> conv => whnf)
      | (refine cnd_true (by assumption) ?_; conv => whnf)
      | (refine cnd_false (by assumption) ?_; conv => whnf)
      | (refine cnd_split ?_ ?_ <;> intro _ <;> conv => whnf)
      | (refine Cd.par tabOk (by kernel_rfl) (by kernel_rfl) ?_; conv => whnf)
      | (refine Fc.use (oP1 hb) ?_ ?_; (focus ((repeat' constructor); done)); conv => whnf)
      | (refine CallQ.of (oP1 hb) ?_ ?_; (focus ((repeat' constructor); done)); conv => whnf))
    refine addSz (by simp only [ByteArray.size_append, octT_size, e0]; omega) ?_
    conv => whnf
    repeat' (first
      | (refine bltG (by first | omega | (simp only [List.length_map] at *; omega)) ?_; conv => whnf)
      | (refine ndG (by assumption) ?_; conv => whnf)
      | (refine mulG ?_; conv => whnf)
      | (refine And.intro rfl ?_; conv => whnf)
      | (refine dsT (by assumption) ?_; conv => whnf)
      | (refine dsF (by assumption) ?_; conv => whnf)
      | (refine nsT (by assumption) ?_; conv => whnf)
      | (refine nsF (by assumption) ?_; conv => whnf)
      | (refine bsT (by assumption) ?_; conv => whnf)
      | (refine bsF (by assumption) ?_; conv => whnf)
      | (refine dsp ?_ ?_ <;> intro _ <;> conv => whnf)
      | (refine nsp ?_ ?_ <;> intro _ <;> conv => whnf)
      | (refine cnd_true (by assumption) ?_; conv => whnf)
      | (refine cnd_false (by assumption) ?_; conv => whnf)
      | (refine cnd_split ?_ ?_ <;> intro _ <;> conv => whnf)
      | (refine Cd.par tabOk (by kernel_rfl) (by kernel_rfl) ?_; conv => whnf)
      | (refine Fc.use (oP0 hc) ?_ ?_; (focus ((repeat' constructor); done)); conv => whnf)
      | (refine CallQ.of (oP0 hc) ?_ ?_; (focus ((repeat' constructor); done)); conv => whnf))
  by_cases hd : octOk d
  case neg =>
    have h : ¬ digOk a b c d := fun h => hd h.2.2.2
    rw [if_neg h, if_neg h]
    refine Fc.of_body tabOk q_digest_Put (by kernel_rfl) (rfl) (rfl) ?_
    conv => whnf
    repeat' (first
      | (refine bltG (by first | omega | (simp only [List.length_map] at *; omega)) ?_; conv => whnf)
      | (refine ndG (by assumption) ?_; conv => whnf)
      | (refine mulG ?_; conv => whnf)
      | (refine And.intro rfl ?_; conv => whnf)
      | (refine dsT (by assumption) ?_; conv => whnf)
      | (refine dsF (by assumption) ?_; conv => whnf)
      | (refine nsT (by assumption) ?_; conv => whnf)
      | (refine nsF (by assumption) ?_; conv => whnf)
      | (refine bsT (by assumption) ?_; conv => whnf)
      | (refine bsF (by assumption) ?_; conv => whnf)
      | (refine dsp ?_ ?_ <;> intro _ <;> conv => whnf)
      | (refine nsp ?_ ?_ <;> intro _ <;> conv => whnf)
      | (refine cnd_true (by assumption) ?_; conv => whnf)
      | (refine cnd_false (by assumption) ?_; conv => whnf)
      | (refine cnd_split ?_ ?_ <;> intro _ <;> conv => whnf)
      | (refine Cd.par tabOk (by kernel_rfl) (by kernel_rfl) ?_; conv => whnf)
      | (refine Fc.use (oP1 ha) ?_ ?_; (focus ((repeat' constructor); done)); conv => whnf)
      | (refine CallQ.of (oP1 ha) ?_ ?_; (focus ((repeat' constructor); done)); conv => whnf)
      | (refine Cd.unroll tabOk 5 ?_; conv => whnf))
    refine addSz (by simp only [ByteArray.size_append, octT_size, e0]; omega) ?_
    conv => whnf
    repeat' (first
      | (refine bltG (by first | omega | (simp only [List.length_map] at *; omega)) ?_; conv => whnf)
      | (refine ndG (by assumption) ?_; conv => whnf)
      | (refine mulG ?_; conv => whnf)
      | (refine And.intro rfl ?_; conv => whnf)
      | (refine dsT (by assumption) ?_; conv => whnf)
      | (refine dsF (by assumption) ?_; conv => whnf)
      | (refine nsT (by assumption) ?_; conv => whnf)
      | (refine nsF (by assumption) ?_; conv => whnf)
      | (refine bsT (by assumption) ?_; conv => whnf)
      | (refine bsF (by assumption) ?_; conv => whnf)
      | (refine dsp ?_ ?_ <;> intro _ <;> conv => whnf)
      | (refine nsp ?_ ?_ <;> intro _ <;> conv => whnf)
      | (refine cnd_true (by assumption) ?_; conv => whnf)
      | (refine cnd_false (by assumption) ?_; conv => whnf)
      | (refine cnd_split ?_ ?_ <;> intro _ <;> conv => whnf)
      | (refine Cd.par tabOk (by kernel_rfl) (by kernel_rfl) ?_; conv => whnf)
      | (refine Fc.use (oP1 hb) ?_ ?_; (focus ((repeat' constructor); done)); conv => whnf)
      | (refine CallQ.of (oP1 hb) ?_ ?_; (focus ((repeat' constructor); done)); conv => whnf))
    refine addSz (by simp only [ByteArray.size_append, octT_size, e0]; omega) ?_
    conv => whnf
    repeat' (first
      | (refine bltG (by first | omega | (simp only [List.length_map] at *; omega)) ?_; conv => whnf)
      | (refine ndG (by assumption) ?_; conv => whnf)
      | (refine mulG ?_; conv => whnf)
      | (refine And.intro rfl ?_; conv => whnf)
      | (refine dsT (by assumption) ?_; conv => whnf)
      | (refine dsF (by assumption) ?_; conv => whnf)
      | (refine nsT (by assumption) ?_; conv => whnf)
      | (refine nsF (by assumption) ?_; conv => whnf)
      | (refine bsT (by assumption) ?_; conv => whnf)
      | (refine bsF (by assumption) ?_; conv => whnf)
      | (refine dsp ?_ ?_ <;> intro _ <;> conv => whnf)
      | (refine nsp ?_ ?_ <;> intro _ <;> conv => whnf)
      | (refine cnd_true (by assumption) ?_; conv => whnf)
      | (refine cnd_false (by assumption) ?_; conv => whnf)
      | (refine cnd_split ?_ ?_ <;> intro _ <;> conv => whnf)
      | (refine Cd.par tabOk (by kernel_rfl) (by kernel_rfl) ?_; conv => whnf)
      | (refine Fc.use (oP1 hc) ?_ ?_; (focus ((repeat' constructor); done)); conv => whnf)
      | (refine CallQ.of (oP1 hc) ?_ ?_; (focus ((repeat' constructor); done)); conv => whnf))
    refine addSz (by simp only [ByteArray.size_append, octT_size, e0]; omega) ?_
    conv => whnf
    repeat' (first
      | (refine bltG (by first | omega | (simp only [List.length_map] at *; omega)) ?_; conv => whnf)
      | (refine ndG (by assumption) ?_; conv => whnf)
      | (refine mulG ?_; conv => whnf)
      | (refine And.intro rfl ?_; conv => whnf)
      | (refine dsT (by assumption) ?_; conv => whnf)
      | (refine dsF (by assumption) ?_; conv => whnf)
      | (refine nsT (by assumption) ?_; conv => whnf)
      | (refine nsF (by assumption) ?_; conv => whnf)
      | (refine bsT (by assumption) ?_; conv => whnf)
      | (refine bsF (by assumption) ?_; conv => whnf)
      | (refine dsp ?_ ?_ <;> intro _ <;> conv => whnf)
      | (refine nsp ?_ ?_ <;> intro _ <;> conv => whnf)
      | (refine cnd_true (by assumption) ?_; conv => whnf)
      | (refine cnd_false (by assumption) ?_; conv => whnf)
      | (refine cnd_split ?_ ?_ <;> intro _ <;> conv => whnf)
      | (refine Cd.par tabOk (by kernel_rfl) (by kernel_rfl) ?_; conv => whnf)
      | (refine Fc.use (oP0 hd) ?_ ?_; (focus ((repeat' constructor); done)); conv => whnf)
      | (refine CallQ.of (oP0 hd) ?_ ?_; (focus ((repeat' constructor); done)); conv => whnf))
  · have h : digOk a b c d := ⟨ha, hb, hc, hd⟩
    rw [if_pos h, if_pos h]
    refine Fc.of_body tabOk q_digest_Put (by kernel_rfl) (rfl) (rfl) ?_
    conv => whnf
    repeat' (first
      | (refine bltG (by first | omega | (simp only [List.length_map] at *; omega)) ?_; conv => whnf)
      | (refine ndG (by assumption) ?_; conv => whnf)
      | (refine mulG ?_; conv => whnf)
      | (refine And.intro rfl ?_; conv => whnf)
      | (refine dsT (by assumption) ?_; conv => whnf)
      | (refine dsF (by assumption) ?_; conv => whnf)
      | (refine nsT (by assumption) ?_; conv => whnf)
      | (refine nsF (by assumption) ?_; conv => whnf)
      | (refine bsT (by assumption) ?_; conv => whnf)
      | (refine bsF (by assumption) ?_; conv => whnf)
      | (refine dsp ?_ ?_ <;> intro _ <;> conv => whnf)
      | (refine nsp ?_ ?_ <;> intro _ <;> conv => whnf)
      | (refine cnd_true (by assumption) ?_; conv => whnf)
      | (refine cnd_false (by assumption) ?_; conv => whnf)
      | (refine cnd_split ?_ ?_ <;> intro _ <;> conv => whnf)
      | (refine Cd.par tabOk (by kernel_rfl) (by kernel_rfl) ?_; conv => whnf)
      | (refine Fc.use (oP1 ha) ?_ ?_; (focus ((repeat' constructor); done)); conv => whnf)
      | (refine CallQ.of (oP1 ha) ?_ ?_; (focus ((repeat' constructor); done)); conv => whnf)
      | (refine Cd.unroll tabOk 5 ?_; conv => whnf))
    refine addSz (by simp only [ByteArray.size_append, octT_size, e0]; omega) ?_
    conv => whnf
    repeat' (first
      | (refine bltG (by first | omega | (simp only [List.length_map] at *; omega)) ?_; conv => whnf)
      | (refine ndG (by assumption) ?_; conv => whnf)
      | (refine mulG ?_; conv => whnf)
      | (refine And.intro rfl ?_; conv => whnf)
      | (refine dsT (by assumption) ?_; conv => whnf)
      | (refine dsF (by assumption) ?_; conv => whnf)
      | (refine nsT (by assumption) ?_; conv => whnf)
      | (refine nsF (by assumption) ?_; conv => whnf)
      | (refine bsT (by assumption) ?_; conv => whnf)
      | (refine bsF (by assumption) ?_; conv => whnf)
      | (refine dsp ?_ ?_ <;> intro _ <;> conv => whnf)
      | (refine nsp ?_ ?_ <;> intro _ <;> conv => whnf)
      | (refine cnd_true (by assumption) ?_; conv => whnf)
      | (refine cnd_false (by assumption) ?_; conv => whnf)
      | (refine cnd_split ?_ ?_ <;> intro _ <;> conv => whnf)
      | (refine Cd.par tabOk (by kernel_rfl) (by kernel_rfl) ?_; conv => whnf)
      | (refine Fc.use (oP1 hb) ?_ ?_; (focus ((repeat' constructor); done)); conv => whnf)
      | (refine CallQ.of (oP1 hb) ?_ ?_; (focus ((repeat' constructor); done)); conv => whnf))
    refine addSz (by simp only [ByteArray.size_append, octT_size, e0]; omega) ?_
    conv => whnf
    repeat' (first
      | (refine bltG (by first | omega | (simp only [List.length_map] at *; omega)) ?_; conv => whnf)
      | (refine ndG (by assumption) ?_; conv => whnf)
      | (refine mulG ?_; conv => whnf)
      | (refine And.intro rfl ?_; conv => whnf)
      | (refine dsT (by assumption) ?_; conv => whnf)
      | (refine dsF (by assumption) ?_; conv => whnf)
      | (refine nsT (by assumption) ?_; conv => whnf)
      | (refine nsF (by assumption) ?_; conv => whnf)
      | (refine bsT (by assumption) ?_; conv => whnf)
      | (refine bsF (by assumption) ?_; conv => whnf)
      | (refine dsp ?_ ?_ <;> intro _ <;> conv => whnf)
      | (refine nsp ?_ ?_ <;> intro _ <;> conv => whnf)
      | (refine cnd_true (by assumption) ?_; conv => whnf)
      | (refine cnd_false (by assumption) ?_; conv => whnf)
      | (refine cnd_split ?_ ?_ <;> intro _ <;> conv => whnf)
      | (refine Cd.par tabOk (by kernel_rfl) (by kernel_rfl) ?_; conv => whnf)
      | (refine Fc.use (oP1 hc) ?_ ?_; (focus ((repeat' constructor); done)); conv => whnf)
      | (refine CallQ.of (oP1 hc) ?_ ?_; (focus ((repeat' constructor); done)); conv => whnf))
    refine addSz (by simp only [ByteArray.size_append, octT_size, e0]; omega) ?_
    conv => whnf
    repeat' (first
      | (refine bltG (by first | omega | (simp only [List.length_map] at *; omega)) ?_; conv => whnf)
      | (refine ndG (by assumption) ?_; conv => whnf)
      | (refine mulG ?_; conv => whnf)
      | (refine And.intro rfl ?_; conv => whnf)
      | (refine dsT (by assumption) ?_; conv => whnf)
      | (refine dsF (by assumption) ?_; conv => whnf)
      | (refine nsT (by assumption) ?_; conv => whnf)
      | (refine nsF (by assumption) ?_; conv => whnf)
      | (refine bsT (by assumption) ?_; conv => whnf)
      | (refine bsF (by assumption) ?_; conv => whnf)
      | (refine dsp ?_ ?_ <;> intro _ <;> conv => whnf)
      | (refine nsp ?_ ?_ <;> intro _ <;> conv => whnf)
      | (refine cnd_true (by assumption) ?_; conv => whnf)
      | (refine cnd_false (by assumption) ?_; conv => whnf)
      | (refine cnd_split ?_ ?_ <;> intro _ <;> conv => whnf)
      | (refine Cd.par tabOk (by kernel_rfl) (by kernel_rfl) ?_; conv => whnf)
      | (refine Fc.use (oP1 hd) ?_ ?_; (focus ((repeat' constructor); done)); conv => whnf)
      | (refine CallQ.of (oP1 hd) ?_ ?_; (focus ((repeat' constructor); done)); conv => whnf))
    refine addSz (by simp only [ByteArray.size_append, octT_size, e0]; omega) ?_
    conv => whnf
    exact ⟨rfl, rfl, by first | trivial | rfl⟩
end Go.Proofs.YtmjpidjdbofdjaaGreat

