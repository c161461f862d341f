import Derived.Test.YtmjpidjdbofdjaaGreatXj
import Derived.Test.YtmjpidjdbofdjaaGreatVp
import Derived.Test.YtmjpidjdbofdjaaGreatVn
/- Contracts: digest.Bucket, Differ. Contracts: digest.Sums. Contracts: digest.Sums of what is no arena; digest.In. Contracts: digest.In. -/
set_option linter.unusedVariables false
set_option linter.unusedSimpArgs false
set_option maxRecDepth 100000
set_option maxHeartbeats 1600000
namespace Go.Proofs.YtmjpidjdbofdjaaGreat
open Go Go.Sy
def byteT (n : Int) : ByteArray := ⟨#[UInt8.ofNat (IntKind.wrap .u8 n).toNat]⟩
theorem byteT_sv (n : Int) : [SV.v (.int .u8 (IntKind.wrap .u8 n))] = bytesSV (byteT n) := by
  have h : 0 ≤ IntKind.wrap .u8 n ∧ IntKind.wrap .u8 n < 256 := by rw [IntKind.wrap_u8]; omega
  have e : ((UInt8.ofNat (IntKind.wrap .u8 n).toNat).toNat : Int) = IntKind.wrap .u8 n := by
    rw [UInt8.toNat_ofNat']; omega
  simp only [bytesSV, byteT, List.map, e]
theorem byteT_size (n : Int) : (byteT n).size = 1 := rfl
/-- A name's bucket. -/
def bk (kind : Int) (key : ByteArray) : Int := (crcS (byteT kind ++ key)).tmod 4
theorem bk_bd (kind : Int) (key : ByteArray) : 0 ≤ bk kind key ∧ bk kind key < 4 := by
  have h := crcS_bd (byteT kind ++ key)
  unfold bk
  rw [Int.tmod_eq_emod_of_nonneg h.1]
  omega
theorem c_digest_Bucket (kind : Int) (key : ByteArray) (hk : key.size < 2 ^ 30) : Fc Tryz.prog n_digest_Bucket [iv kind, ss key] (iv (bk kind key)) := by
  have h := c_crc_Sum (byteT kind ++ key) (by rw [ByteArray.size_append, byteT_size]; omega)
  have hz : (byteT kind).size + key.size ≤ 9223372036854775807 := by rw [byteT_size]; omega
  refine Fc.of_body tabOk q_digest_Bucket (by kernel_rfl) (rfl) (rfl) ?_
  conv => whnf
  repeat' (first
    | (refine addSz hz ?_; conv => whnf)
    | (refine exB (byteT kind) (byteT_sv kind) ?_; conv => whnf)
    | (refine bltG (by first | omega | (simp only [List.length_map] at *; omega)) ?_; conv => whnf)
    | (refine ndG (by assumption) ?_; conv => whnf)
    | (refine mulG ?_; conv => whnf)
    | (refine And.intro rfl ?_; conv => whnf)
    | (refine dsT (by assumption) ?_; conv => whnf)
    | (refine dsF (by assumption) ?_; conv => whnf)
    | (refine nsT (by assumption) ?_; conv => whnf)
    | (refine nsF (by assumption) ?_; conv => whnf)
    | (refine bsT (by assumption) ?_; conv => whnf)
    | (refine bsF (by assumption) ?_; conv => whnf)
    | (refine dsp ?_ ?_ <;> intro _ <;> conv => whnf)
    | (refine nsp ?_ ?_ <;> intro _ <;> conv => whnf)
    | (refine cnd_true (by assumption) ?_; conv => whnf)
    | (refine cnd_false (by assumption) ?_; conv => whnf)
    | (refine cnd_split ?_ ?_ <;> intro _ <;> conv => whnf)
    | (refine Cd.par tabOk (by kernel_rfl) (by kernel_rfl) ?_; conv => whnf)
    | (refine Fc.use (h) ?_ ?_; (focus ((repeat' constructor); done)); conv => whnf)
    | (refine CallQ.of (h) ?_ ?_; (focus ((repeat' constructor); done)); conv => whnf))
  all_goals rfl
theorem agg4d {a b c d a' b' c' d' : Int} {K : Bool → Prop} (h : K (decide ([a, b, c, d] = [a', b', c', d']))) : AggEq Tryz.prog .eql t_4_int [iv a, iv b, iv c, iv d] [iv a', iv b', iv c', iv d'] K :=
  AggEq.ints (xs := [a, b, c, d]) (ys := [a', b', c', d']) u_4_int u_int info3_eq (by kernel_rfl) (by kernel_rfl) rfl rfl h
def dif (a b c d a' b' c' d' : Int) : Int := (if a = a' then 0 else 1) + (if b = b' then 0 else 2) + (if c = c' then 0 else 4) + (if d = d' then 0 else 8)
theorem c_digest_Differ (a b c d a' b' c' d' : Int) : Fc Tryz.prog n_digest_Differ [dig a b c d, dig a' b' c' d'] (iv (dif a b c d a' b' c' d')) := by
  refine Fc.of_body tabOk q_digest_Differ (by kernel_rfl) (rfl) (rfl) ?_
  conv => whnf
  repeat' (first
    | (refine agg4d ?_; conv => whnf)
    | (refine bltG (by first | omega | (simp only [List.length_map] at *; omega)) ?_; conv => whnf)
    | (refine ndG (by assumption) ?_; conv => whnf)
    | (refine mulG ?_; conv => whnf)
    | (refine And.intro rfl ?_; conv => whnf)
    | (refine dsT (by assumption) ?_; conv => whnf)
    | (refine dsF (by assumption) ?_; conv => whnf)
    | (refine nsT (by assumption) ?_; conv => whnf)
    | (refine nsF (by assumption) ?_; conv => whnf)
    | (refine bsT (by assumption) ?_; conv => whnf)
    | (refine bsF (by assumption) ?_; conv => whnf)
    | (refine dsp ?_ ?_ <;> intro _ <;> conv => whnf)
    | (refine nsp ?_ ?_ <;> intro _ <;> conv => whnf)
    | (refine cnd_true (by assumption) ?_; conv => whnf)
    | (refine cnd_false (by assumption) ?_; conv => whnf)
    | (refine cnd_split ?_ ?_ <;> intro _ <;> conv => whnf)
    | (refine Cd.par tabOk (by kernel_rfl) (by kernel_rfl) ?_; conv => whnf)
    | (refine Cd.unroll tabOk 5 ?_; conv => whnf))
  all_goals first
    | (rename_i h; simp only [List.cons.injEq, and_true] at h; obtain ⟨rfl, rfl, rfl, rfl⟩ := h; simp only [dif, if_true]; kernel_rfl)
    | (simp only [dif, *, if_true, if_false]; kernel_rfl)
/-- The slots that an arena tells. -/
def putS (e : Ent) : Int := crcS (if entOk e then entT e else ⟨#[]⟩)
def smS (l : List Ent) (j : Int) : Int := l.foldl (fun n e => if bk e.val.kind e.key = j then bitI .xor .i64 n (putS e) else n) 0
theorem smS_snoc (l : List Ent) (e : Ent) (j : Int) : smS (l ++ [e]) j = if bk e.val.kind e.key = j then bitI .xor .i64 (smS l j) (putS e) else smS l j := by
  unfold smS; rw [List.foldl_append]; rfl
end Go.Proofs.YtmjpidjdbofdjaaGreat
namespace Go.Proofs.YtmjpidjdbofdjaaGreat
open Go Go.Sy
theorem four {z : Int} (h : 0 ≤ z ∧ z < 4) : z = 0 ∨ z = 1 ∨ z = 2 ∨ z = 3 := by omega
theorem entT_small (e : Ent) (h : entOk e) : (entT e).size < 2 ^ 40 := by
  have h1 : e.val.kind = 1 → e.val.text.size ≤ 8 := fun hk => by
    rcases h.2.2 with ⟨_, y⟩ | ⟨y, _⟩ | ⟨y, _⟩
    · exact y.2.2.2.2.2.1
    · rw [hk] at y; exact absurd y (by decide)
    · rw [hk] at y; exact absurd y (by decide)
  have h2 : e.val.kind = 2 → e.val.plus.length ≤ 8 ∧ e.val.minus.length ≤ 8 := fun hk => by
    rcases h.2.2 with ⟨y, _⟩ | ⟨_, y⟩ | ⟨y, _⟩
    · rw [hk] at y; exact absurd y (by decide)
    · exact ⟨Nat.le_of_eq y.2.1, Nat.le_of_eq y.2.2.1⟩
    · rw [hk] at y; exact absurd y (by decide)
  have hb := body_bd e h.2.1 h1 h2
  have hh := head_bd e h.2.1
  unfold entT
  rw [ByteArray.size_append, ByteArray.size_append, zeros_size]
  have : (⟨#[]⟩ : ByteArray).size = 0 := rfl
  omega
theorem c_digest_Sums (a : Ar) (ha : a.bd) (hk : arOk a) : Fc Tryz.prog n_digest_Sums [a.sv] (dig (smS a.slots 0) (smS a.slots 1) (smS a.slots 2) (smS a.slots 3)) := by
  have hlen : a.slots.length ≤ 8 := by have h1 := hk.2.1; have h2 := hk.2.2.1; omega
  have hck := c_arena_Chunk a ha hk 0 8 (by omega) (by omega)
  have hsel : sel a.slots 0 8 a.slots.length = a.slots := by unfold sel; rw [List.take_length, List.drop_zero]; exact List.take_of_length_le (by omega)
  rw [hsel] at hck
  refine Fc.of_body tabOk q_digest_Sums (by kernel_rfl) ((blwL_one (blw_ar 0 a))) (rfl) ?_
  conv => whnf
  repeat' (first
    | (refine bltG (by first | omega | (simp only [List.length_map] at *; omega)) ?_; conv => whnf)
    | (refine ndG (by assumption) ?_; conv => whnf)
    | (refine mulG ?_; conv => whnf)
    | (refine And.intro rfl ?_; conv => whnf)
    | (refine dsT (by assumption) ?_; conv => whnf)
    | (refine dsF (by assumption) ?_; conv => whnf)
    | (refine nsT (by assumption) ?_; conv => whnf)
    | (refine nsF (by assumption) ?_; conv => whnf)
    | (refine bsT (by assumption) ?_; conv => whnf)
    | (refine bsF (by assumption) ?_; conv => whnf)
    | (refine dsp ?_ ?_ <;> intro _ <;> conv => whnf)
    | (refine nsp ?_ ?_ <;> intro _ <;> conv => whnf)
    | (refine cnd_true (by assumption) ?_; conv => whnf)
    | (refine cnd_false (by assumption) ?_; conv => whnf)
    | (refine cnd_split ?_ ?_ <;> intro _ <;> conv => whnf)
    | (refine Cd.par tabOk (by kernel_rfl) (by kernel_rfl) ?_; conv => whnf)
    | (refine Tr.of_body tabOk q_digest_slots (by kernel_rfl) ?_; conv => whnf))
  refine Cd.rangeFunc [(2, .loc 1 0), (3, .loc 2 0)] (by repeat' constructor) ?_
  conv => whnf
  refine And.intro ⟨_, q_digest_slots_1, by kernel_rfl⟩ ?_
  refine Tr.of_body tabOk q_digest_slots_1 (by kernel_rfl) ?_
  conv => whnf
  repeat' (first
    | (refine bltG (by first | omega | (simp only [List.length_map] at *; omega)) ?_; conv => whnf)
    | (refine ndG (by assumption) ?_; conv => whnf)
    | (refine mulG ?_; conv => whnf)
    | (refine And.intro rfl ?_; conv => whnf)
    | (refine dsT (by assumption) ?_; conv => whnf)
    | (refine dsF (by assumption) ?_; conv => whnf)
    | (refine nsT (by assumption) ?_; conv => whnf)
    | (refine nsF (by assumption) ?_; conv => whnf)
    | (refine bsT (by assumption) ?_; conv => whnf)
    | (refine bsF (by assumption) ?_; conv => whnf)
    | (refine dsp ?_ ?_ <;> intro _ <;> conv => whnf)
    | (refine nsp ?_ ?_ <;> intro _ <;> conv => whnf)
    | (refine cnd_true (by assumption) ?_; conv => whnf)
    | (refine cnd_false (by assumption) ?_; conv => whnf)
    | (refine cnd_split ?_ ?_ <;> intro _ <;> conv => whnf)
    | (refine Cd.par tabOk (by kernel_rfl) (by kernel_rfl) ?_; conv => whnf)
    | (refine Fc.use (hck) ?_ ?_; (focus ((repeat' constructor); done)); conv => whnf)
    | (refine CallQ.of (hck) ?_ ?_; (focus ((repeat' constructor); done)); conv => whnf))
  refine loopP tabOk (fun q : Nat × Int × Int × Int × Int => q.1 ≤ a.slots.length ∧ q.2.1 = smS (a.slots.take q.1) 0 ∧ q.2.2.1 = smS (a.slots.take q.1) 1 ∧ q.2.2.2.1 = smS (a.slots.take q.1) 2 ∧ q.2.2.2.2 = smS (a.slots.take q.1) 3)
    (fun q => ⟨[(8, iv q.1), (7, iv (a.slots.map Ent.sv).length), (6, ents a.slots), (0, .yld 4), (1, .loc 3 0)], []⟩)
    (fun q => ⟨5, [.c [iv a.cap, ents a.slots, ints a.index], .c [iv 0, iv 0, iv 0, iv 0], .c [iv q.2.1, iv q.2.2.1, iv q.2.2.2.1, iv q.2.2.2.2], .c [iv a.cap, ents a.slots, ints a.index], .lp ⟨.ready, none, F_digest_Sums.ntmps, [(2, .loc 1 0), (3, .loc 2 0)], _, _, _⟩], []⟩)
    (fun q => a.slots.length - q.1) (0, 0, 0, 0, 0) ⟨Nat.zero_le _, rfl, rfl, rfl, rfl⟩ (by repeat' constructor) (fun _ => rfl) ?_
  rintro ⟨i, s0, s1, s2, s3⟩ ⟨hi, h0, h1, h2, h3⟩
  dsimp only at hi h0 h1 h2 h3
  conv => whnf
  refine dsp ?_ ?_ <;> intro hlt <;> (simp only [List.length_map] at hlt) <;> conv => whnf
  · obtain ⟨x, hx⟩ : ∃ x, a.slots[i]? = some x := ⟨_, List.getElem?_eq_getElem (by omega)⟩
    have hxm : x ∈ a.slots := List.mem_of_getElem? hx
    have hok := hk.2.2.2.1 x hxm
    have hB := c_digest_Bucket x.val.kind x.key (by have := hok.2.1; omega)
    have hp := c_entry_Put x (ha.1 x hxm)
    have hpz : (if entOk x then entT x else ⟨#[]⟩).size < 2 ^ 40 := by rw [if_pos hok]; exact entT_small x hok
    have hc : Fc Tryz.prog n_crc_Sum [ss (if entOk x then entT x else ⟨#[]⟩)] (iv (putS x)) := c_crc_Sum _ hpz
    generalize (if entOk x then entT x else ⟨#[]⟩) = pt at hp hc
    generalize (if entOk x then (0 : Int) else 2) = er at hp
    have hS : ∀ k, smS (a.slots.take (i + 1)) k = if bk x.val.kind x.key = k then bitI .xor .i64 (smS (a.slots.take i) k) (putS x) else smS (a.slots.take i) k := fun k => by
      rw [List.take_add_one, hx]; exact smS_snoc _ _ _
    rcases four (bk_bd x.val.kind x.key) with hj | hj | hj | hj
    · rw [hj] at hB hS
      have q0 := hS 0; have q1 := hS 1; have q2 := hS 2; have q3 := hS 3
      rw [← h0] at q0; rw [← h1] at q1; rw [← h2] at q2; rw [← h3] at q3
      rw [if_pos rfl] at q0
      rw [if_neg (by decide)] at q1
      rw [if_neg (by decide)] at q2
      rw [if_neg (by decide)] at q3
      clear hS
      repeat' (first
        | (refine Cd.parT tabOk (by kernel_rfl) [8] rfl ?_; conv => whnf)
        | (refine Cd.parT tabOk (by kernel_rfl) [7] rfl ?_; conv => whnf)
        | (refine bltG (by first | omega | (simp only [List.length_map] at *; omega)) ?_; conv => whnf)
        | (refine ndG (by assumption) ?_; conv => whnf)
        | (refine mulG ?_; conv => whnf)
        | (refine And.intro rfl ?_; conv => whnf)
        | (refine dsT (by assumption) ?_; conv => whnf)
        | (refine dsF (by assumption) ?_; conv => whnf)
        | (refine nsT (by assumption) ?_; conv => whnf)
        | (refine nsF (by assumption) ?_; conv => whnf)
        | (refine bsT (by assumption) ?_; conv => whnf)
        | (refine bsF (by assumption) ?_; conv => whnf)
        | (refine dsp ?_ ?_ <;> intro _ <;> conv => whnf)
        | (refine nsp ?_ ?_ <;> intro _ <;> conv => whnf)
        | (refine cnd_true (by assumption) ?_; conv => whnf)
        | (refine cnd_false (by assumption) ?_; conv => whnf)
        | (refine cnd_split ?_ ?_ <;> intro _ <;> conv => whnf)
        | (refine Cd.par tabOk (by kernel_rfl) (by kernel_rfl) ?_; conv => whnf)
        | (refine Fc.use (hB) ?_ ?_; (focus ((repeat' constructor); done)); conv => whnf)
        | (refine CallQ.of (hB) ?_ ?_; (focus ((repeat' constructor); done)); conv => whnf)
        | (refine Fc.use (hp) ?_ ?_; (focus ((repeat' constructor); done)); conv => whnf)
        | (refine CallQ.of (hp) ?_ ?_; (focus ((repeat' constructor); done)); conv => whnf)
        | (refine Fc.use (hc) ?_ ?_; (focus ((repeat' constructor); done)); conv => whnf)
        | (refine CallQ.of (hc) ?_ ?_; (focus ((repeat' constructor); done)); conv => whnf)
        | (refine RdQ.of_vc tabOk ?_; (conv => whnf); intro _; conv => whnf)
        | rfl
        | exact True.intro
        | (refine And.intro ?_ ?_ <;> conv => whnf))
      refine ⟨(i + 1, bitI .xor .i64 s0 (putS x), s1, s2, s3), ⟨by show i + 1 ≤ _; omega, q0.symm, q1.symm, q2.symm, q3.symm⟩, ?_, ⟨?_, rfl, ?_, ?_, rfl, ?_⟩⟩
      · first | omega | (simp only [List.length_map] at *; omega)
      · (repeat' constructor) <;> first | (refine ivW ?_ ?_ ?_ <;> first | omega | (dsimp only; omega))
      · (repeat' (first | constructor))
      · repeat' constructor
      · first | exact .inl rfl | exact .inr ⟨by simp [blwE, blw, blwL, blwB, blwX, blwR, blw_iv, blw_ints, blw_ents, blw_ent, blw_val, blw_ar, blwL_map (blw_ent _), blwL_map (blw_iv _), sb, ss] <;> rfl, rfl, by simp [blwE, blw, blwL, blwB, blwX, blwR, blw_iv, blw_ints, blw_ents, blw_ent, blw_val, blw_ar, blwL_map (blw_ent _), blwL_map (blw_iv _), sb, ss] <;> rfl, by simp [blwE, blw, blwL, blwB, blwX, blwR, blw_iv, blw_ints, blw_ents, blw_ent, blw_val, blw_ar, blwL_map (blw_ent _), blwL_map (blw_iv _), sb, ss]⟩
    · rw [hj] at hB hS
      have q0 := hS 0; have q1 := hS 1; have q2 := hS 2; have q3 := hS 3
      rw [← h0] at q0; rw [← h1] at q1; rw [← h2] at q2; rw [← h3] at q3
      rw [if_neg (by decide)] at q0
      rw [if_pos rfl] at q1
      rw [if_neg (by decide)] at q2
      rw [if_neg (by decide)] at q3
      clear hS
      repeat' (first
        | (refine Cd.parT tabOk (by kernel_rfl) [8] rfl ?_; conv => whnf)
        | (refine Cd.parT tabOk (by kernel_rfl) [7] rfl ?_; conv => whnf)
        | (refine bltG (by first | omega | (simp only [List.length_map] at *; omega)) ?_; conv => whnf)
        | (refine ndG (by assumption) ?_; conv => whnf)
        | (refine mulG ?_; conv => whnf)
        | (refine And.intro rfl ?_; conv => whnf)
        | (refine dsT (by assumption) ?_; conv => whnf)
        | (refine dsF (by assumption) ?_; conv => whnf)
        | (refine nsT (by assumption) ?_; conv => whnf)
        | (refine nsF (by assumption) ?_; conv => whnf)
        | (refine bsT (by assumption) ?_; conv => whnf)
        | (refine bsF (by assumption) ?_; conv => whnf)
        | (refine dsp ?_ ?_ <;> intro _ <;> conv => whnf)
        | (refine nsp ?_ ?_ <;> intro _ <;> conv => whnf)
        | (refine cnd_true (by assumption) ?_; conv => whnf)
        | (refine cnd_false (by assumption) ?_; conv => whnf)
        | (refine cnd_split ?_ ?_ <;> intro _ <;> conv => whnf)
        | (refine Cd.par tabOk (by kernel_rfl) (by kernel_rfl) ?_; conv => whnf)
        | (refine Fc.use (hB) ?_ ?_; (focus ((repeat' constructor); done)); conv => whnf)
        | (refine CallQ.of (hB) ?_ ?_; (focus ((repeat' constructor); done)); conv => whnf)
        | (refine Fc.use (hp) ?_ ?_; (focus ((repeat' constructor); done)); conv => whnf)
        | (refine CallQ.of (hp) ?_ ?_; (focus ((repeat' constructor); done)); conv => whnf)
        | (refine Fc.use (hc) ?_ ?_; (focus ((repeat' constructor); done)); conv => whnf)
        | (refine CallQ.of (hc) ?_ ?_; (focus ((repeat' constructor); done)); conv => whnf)
        | (refine RdQ.of_vc tabOk ?_; (conv => whnf); intro _; conv => whnf)
        | rfl
        | exact True.intro
        | (refine And.intro ?_ ?_ <;> conv => whnf))
      refine ⟨(i + 1, s0, bitI .xor .i64 s1 (putS x), s2, s3), ⟨by show i + 1 ≤ _; omega, q0.symm, q1.symm, q2.symm, q3.symm⟩, ?_, ⟨?_, rfl, ?_, ?_, rfl, ?_⟩⟩
      · first | omega | (simp only [List.length_map] at *; omega)
      · (repeat' constructor) <;> first | (refine ivW ?_ ?_ ?_ <;> first | omega | (dsimp only; omega))
      · (repeat' (first | constructor))
      · repeat' constructor
      · first | exact .inl rfl | exact .inr ⟨by simp [blwE, blw, blwL, blwB, blwX, blwR, blw_iv, blw_ints, blw_ents, blw_ent, blw_val, blw_ar, blwL_map (blw_ent _), blwL_map (blw_iv _), sb, ss] <;> rfl, rfl, by simp [blwE, blw, blwL, blwB, blwX, blwR, blw_iv, blw_ints, blw_ents, blw_ent, blw_val, blw_ar, blwL_map (blw_ent _), blwL_map (blw_iv _), sb, ss] <;> rfl, by simp [blwE, blw, blwL, blwB, blwX, blwR, blw_iv, blw_ints, blw_ents, blw_ent, blw_val, blw_ar, blwL_map (blw_ent _), blwL_map (blw_iv _), sb, ss]⟩
    · rw [hj] at hB hS
      have q0 := hS 0; have q1 := hS 1; have q2 := hS 2; have q3 := hS 3
      rw [← h0] at q0; rw [← h1] at q1; rw [← h2] at q2; rw [← h3] at q3
      rw [if_neg (by decide)] at q0
      rw [if_neg (by decide)] at q1
      rw [if_pos rfl] at q2
      rw [if_neg (by decide)] at q3
      clear hS
      repeat' (first
        | (refine Cd.parT tabOk (by kernel_rfl) [8] rfl ?_; conv => whnf)
        | (refine Cd.parT tabOk (by kernel_rfl) [7] rfl ?_; conv => whnf)
        | (refine bltG (by first | omega | (simp only [List.length_map] at *; omega)) ?_; conv => whnf)
        | (refine ndG (by assumption) ?_; conv => whnf)
        | (refine mulG ?_; conv => whnf)
        | (refine And.intro rfl ?_; conv => whnf)
        | (refine dsT (by assumption) ?_; conv => whnf)
        | (refine dsF (by assumption) ?_; conv => whnf)
        | (refine nsT (by assumption) ?_; conv => whnf)
        | (refine nsF (by assumption) ?_; conv => whnf)
        | (refine bsT (by assumption) ?_; conv => whnf)
        | (refine bsF (by assumption) ?_; conv => whnf)
        | (refine dsp ?_ ?_ <;> intro _ <;> conv => whnf)
        | (refine nsp ?_ ?_ <;> intro _ <;> conv => whnf)
        | (refine cnd_true (by assumption) ?_; conv => whnf)
        | (refine cnd_false (by assumption) ?_; conv => whnf)
        | (refine cnd_split ?_ ?_ <;> intro _ <;> conv => whnf)
        | (refine Cd.par tabOk (by kernel_rfl) (by kernel_rfl) ?_; conv => whnf)
        | (refine Fc.use (hB) ?_ ?_; (focus ((repeat' constructor); done)); conv => whnf)
        | (refine CallQ.of (hB) ?_ ?_; (focus ((repeat' constructor); done)); conv => whnf)
        | (refine Fc.use (hp) ?_ ?_; (focus ((repeat' constructor); done)); conv => whnf)
        | (refine CallQ.of (hp) ?_ ?_; (focus ((repeat' constructor); done)); conv => whnf)
        | (refine Fc.use (hc) ?_ ?_; (focus ((repeat' constructor); done)); conv => whnf)
        | (refine CallQ.of (hc) ?_ ?_; (focus ((repeat' constructor); done)); conv => whnf)
        | (refine RdQ.of_vc tabOk ?_; (conv => whnf); intro _; conv => whnf)
        | rfl
        | exact True.intro
        | (refine And.intro ?_ ?_ <;> conv => whnf))
      refine ⟨(i + 1, s0, s1, bitI .xor .i64 s2 (putS x), s3), ⟨by show i + 1 ≤ _; omega, q0.symm, q1.symm, q2.symm, q3.symm⟩, ?_, ⟨?_, rfl, ?_, ?_, rfl, ?_⟩⟩
      · first | omega | (simp only [List.length_map] at *; omega)
      · (repeat' constructor) <;> first | (refine ivW ?_ ?_ ?_ <;> first | omega | (dsimp only; omega))
      · (repeat' (first | constructor))
      · repeat' constructor
      · first | exact .inl rfl | exact .inr ⟨by simp [blwE, blw, blwL, blwB, blwX, blwR, blw_iv, blw_ints, blw_ents, blw_ent, blw_val, blw_ar, blwL_map (blw_ent _), blwL_map (blw_iv _), sb, ss] <;> rfl, rfl, by simp [blwE, blw, blwL, blwB, blwX, blwR, blw_iv, blw_ints, blw_ents, blw_ent, blw_val, blw_ar, blwL_map (blw_ent _), blwL_map (blw_iv _), sb, ss] <;> rfl, by simp [blwE, blw, blwL, blwB, blwX, blwR, blw_iv, blw_ints, blw_ents, blw_ent, blw_val, blw_ar, blwL_map (blw_ent _), blwL_map (blw_iv _), sb, ss]⟩
    · rw [hj] at hB hS
      have q0 := hS 0; have q1 := hS 1; have q2 := hS 2; have q3 := hS 3
      rw [← h0] at q0; rw [← h1] at q1; rw [← h2] at q2; rw [← h3] at q3
      rw [if_neg (by decide)] at q0
      rw [if_neg (by decide)] at q1
      rw [if_neg (by decide)] at q2
      rw [if_pos rfl] at q3
      clear hS
      repeat' (first
        | (refine Cd.parT tabOk (by kernel_rfl) [8] rfl ?_; conv => whnf)
        | (refine Cd.parT tabOk (by kernel_rfl) [7] rfl ?_; conv => whnf)
        | (refine bltG (by first | omega | (simp only [List.length_map] at *; omega)) ?_; conv => whnf)
        | (refine ndG (by assumption) ?_; conv => whnf)
        | (refine mulG ?_; conv => whnf)
        | (refine And.intro rfl ?_; conv => whnf)
        | (refine dsT (by assumption) ?_; conv => whnf)
        | (refine dsF (by assumption) ?_; conv => whnf)
        | (refine nsT (by assumption) ?_; conv => whnf)
        | (refine nsF (by assumption) ?_; conv => whnf)
        | (refine bsT (by assumption) ?_; conv => whnf)
        | (refine bsF (by assumption) ?_; conv => whnf)
        | (refine dsp ?_ ?_ <;> intro _ <;> conv => whnf)
        | (refine nsp ?_ ?_ <;> intro _ <;> conv => whnf)
        | (refine cnd_true (by assumption) ?_; conv => whnf)
        | (refine cnd_false (by assumption) ?_; conv => whnf)
        | (refine cnd_split ?_ ?_ <;> intro _ <;> conv => whnf)
        | (refine Cd.par tabOk (by kernel_rfl) (by kernel_rfl) ?_; conv => whnf)
        | (refine Fc.use (hB) ?_ ?_; (focus ((repeat' constructor); done)); conv => whnf)
        | (refine CallQ.of (hB) ?_ ?_; (focus ((repeat' constructor); done)); conv => whnf)
        | (refine Fc.use (hp) ?_ ?_; (focus ((repeat' constructor); done)); conv => whnf)
        | (refine CallQ.of (hp) ?_ ?_; (focus ((repeat' constructor); done)); conv => whnf)
        | (refine Fc.use (hc) ?_ ?_; (focus ((repeat' constructor); done)); conv => whnf)
        | (refine CallQ.of (hc) ?_ ?_; (focus ((repeat' constructor); done)); conv => whnf)
        | (refine RdQ.of_vc tabOk ?_; (conv => whnf); intro _; conv => whnf)
        | rfl
        | exact True.intro
        | (refine And.intro ?_ ?_ <;> conv => whnf))
      refine ⟨(i + 1, s0, s1, s2, bitI .xor .i64 s3 (putS x)), ⟨by show i + 1 ≤ _; omega, q0.symm, q1.symm, q2.symm, q3.symm⟩, ?_, ⟨?_, rfl, ?_, ?_, rfl, ?_⟩⟩
      · first | omega | (simp only [List.length_map] at *; omega)
      · (repeat' constructor) <;> first | (refine ivW ?_ ?_ ?_ <;> first | omega | (dsimp only; omega))
      · (repeat' (first | constructor))
      · repeat' constructor
      · first | exact .inl rfl | exact .inr ⟨by simp [blwE, blw, blwL, blwB, blwX, blwR, blw_iv, blw_ints, blw_ents, blw_ent, blw_val, blw_ar, blwL_map (blw_ent _), blwL_map (blw_iv _), sb, ss] <;> rfl, rfl, by simp [blwE, blw, blwL, blwB, blwX, blwR, blw_iv, blw_ints, blw_ents, blw_ent, blw_val, blw_ar, blwL_map (blw_ent _), blwL_map (blw_iv _), sb, ss] <;> rfl, by simp [blwE, blw, blwL, blwB, blwX, blwR, blw_iv, blw_ints, blw_ents, blw_ent, blw_val, blw_ar, blwL_map (blw_ent _), blwL_map (blw_iv _), sb, ss]⟩
  · obtain rfl : i = a.slots.length := by omega
    rw [List.take_length] at h0 h1 h2 h3
    subst h0 h1 h2 h3
    repeat' (first
      | (refine bltG (by first | omega | (simp only [List.length_map] at *; omega)) ?_; conv => whnf)
      | (refine ndG (by assumption) ?_; conv => whnf)
      | (refine mulG ?_; conv => whnf)
      | (refine And.intro rfl ?_; conv => whnf)
      | (refine dsT (by assumption) ?_; conv => whnf)
      | (refine dsF (by assumption) ?_; conv => whnf)
      | (refine nsT (by assumption) ?_; conv => whnf)
      | (refine nsF (by assumption) ?_; conv => whnf)
      | (refine bsT (by assumption) ?_; conv => whnf)
      | (refine bsF (by assumption) ?_; conv => whnf)
      | (refine dsp ?_ ?_ <;> intro _ <;> conv => whnf)
      | (refine nsp ?_ ?_ <;> intro _ <;> conv => whnf)
      | (refine cnd_true (by assumption) ?_; conv => whnf)
      | (refine cnd_false (by assumption) ?_; conv => whnf)
      | (refine cnd_split ?_ ?_ <;> intro _ <;> conv => whnf)
      | (refine Cd.par tabOk (by kernel_rfl) (by kernel_rfl) ?_; conv => whnf))
    repeat' constructor
end Go.Proofs.YtmjpidjdbofdjaaGreat
namespace Go.Proofs.YtmjpidjdbofdjaaGreat
open Go Go.Sy
theorem c_arena_Chunk_no (a : Ar) (ha : a.bd) (hk : ¬ arOk a) : Fc Tryz.prog n_arena_Chunk [a.sv, iv 0, iv 8] (ents []) := by
  have hck := c_arena_Check a ha
  unfold en at hck
  rw [if_neg hk] at hck
  refine Fc.of_body tabOk q_arena_Chunk (by kernel_rfl) ((blwL_cons (blw_ar 0 a) (blwL_cons rfl (blwL_one rfl)))) ((blw_ents 0 _)) ?_
  conv => whnf
  repeat' (first
    | (refine bltG (by first | omega | (simp only [List.length_map] at *; omega)) ?_; conv => whnf)
    | (refine ndG (by assumption) ?_; conv => whnf)
    | (refine mulG ?_; conv => whnf)
    | (refine And.intro rfl ?_; conv => whnf)
    | (refine dsT (by assumption) ?_; conv => whnf)
    | (refine dsF (by assumption) ?_; conv => whnf)
    | (refine nsT (by assumption) ?_; conv => whnf)
    | (refine nsF (by assumption) ?_; conv => whnf)
    | (refine bsT (by assumption) ?_; conv => whnf)
    | (refine bsF (by assumption) ?_; conv => whnf)
    | (refine dsp ?_ ?_ <;> intro _ <;> conv => whnf)
    | (refine nsp ?_ ?_ <;> intro _ <;> conv => whnf)
    | (refine cnd_true (by assumption) ?_; conv => whnf)
    | (refine cnd_false (by assumption) ?_; conv => whnf)
    | (refine cnd_split ?_ ?_ <;> intro _ <;> conv => whnf)
    | (refine Cd.par tabOk (by kernel_rfl) (by kernel_rfl) ?_; conv => whnf)
    | (refine Tr.of_body tabOk q_arena_each (by kernel_rfl) ?_; conv => whnf))
  refine Cd.rangeFunc [(3, .loc 0 0), (4, .loc 1 0), (5, .loc 2 0), (7, .loc 3 0)] (by repeat' constructor) ?_
  conv => whnf
  refine And.intro ⟨_, q_arena_each_1, by kernel_rfl⟩ ?_
  refine Tr.of_body tabOk q_arena_each_1 (by kernel_rfl) ?_
  conv => whnf
  repeat' (first
    | (refine bltG (by first | omega | (simp only [List.length_map] at *; omega)) ?_; conv => whnf)
    | (refine ndG (by assumption) ?_; conv => whnf)
    | (refine mulG ?_; conv => whnf)
    | (refine And.intro rfl ?_; conv => whnf)
    | (refine dsT (by assumption) ?_; conv => whnf)
    | (refine dsF (by assumption) ?_; conv => whnf)
    | (refine nsT (by assumption) ?_; conv => whnf)
    | (refine nsF (by assumption) ?_; conv => whnf)
    | (refine bsT (by assumption) ?_; conv => whnf)
    | (refine bsF (by assumption) ?_; conv => whnf)
    | (refine dsp ?_ ?_ <;> intro _ <;> conv => whnf)
    | (refine nsp ?_ ?_ <;> intro _ <;> conv => whnf)
    | (refine cnd_true (by assumption) ?_; conv => whnf)
    | (refine cnd_false (by assumption) ?_; conv => whnf)
    | (refine cnd_split ?_ ?_ <;> intro _ <;> conv => whnf)
    | (refine Cd.par tabOk (by kernel_rfl) (by kernel_rfl) ?_; conv => whnf)
    | (refine Fc.use (hck) ?_ ?_; (focus ((repeat' constructor); done)); conv => whnf)
    | (refine CallQ.of (hck) ?_ ?_; (focus ((repeat' constructor); done)); conv => whnf))
  all_goals repeat' constructor
def slotsOf (a : Ar) : List Ent := if arOk a then a.slots else []
theorem c_digest_Sums_no (a : Ar) (ha : a.bd) (hk : ¬ arOk a) : Fc Tryz.prog n_digest_Sums [a.sv] (dig 0 0 0 0) := by
  have hck := c_arena_Chunk_no a ha hk
  refine Fc.of_body tabOk q_digest_Sums (by kernel_rfl) ((blwL_one (blw_ar 0 a))) (rfl) ?_
  conv => whnf
  repeat' (first
    | (refine bltG (by first | omega | (simp only [List.length_map] at *; omega)) ?_; conv => whnf)
    | (refine ndG (by assumption) ?_; conv => whnf)
    | (refine mulG ?_; conv => whnf)
    | (refine And.intro rfl ?_; conv => whnf)
    | (refine dsT (by assumption) ?_; conv => whnf)
    | (refine dsF (by assumption) ?_; conv => whnf)
    | (refine nsT (by assumption) ?_; conv => whnf)
    | (refine nsF (by assumption) ?_; conv => whnf)
    | (refine bsT (by assumption) ?_; conv => whnf)
    | (refine bsF (by assumption) ?_; conv => whnf)
    | (refine dsp ?_ ?_ <;> intro _ <;> conv => whnf)
    | (refine nsp ?_ ?_ <;> intro _ <;> conv => whnf)
    | (refine cnd_true (by assumption) ?_; conv => whnf)
    | (refine cnd_false (by assumption) ?_; conv => whnf)
    | (refine cnd_split ?_ ?_ <;> intro _ <;> conv => whnf)
    | (refine Cd.par tabOk (by kernel_rfl) (by kernel_rfl) ?_; conv => whnf)
    | (refine Tr.of_body tabOk q_digest_slots (by kernel_rfl) ?_; conv => whnf))
  refine Cd.rangeFunc [(2, .loc 1 0), (3, .loc 2 0)] (by repeat' constructor) ?_
  conv => whnf
  refine And.intro ⟨_, q_digest_slots_1, by kernel_rfl⟩ ?_
  refine Tr.of_body tabOk q_digest_slots_1 (by kernel_rfl) ?_
  conv => whnf
  repeat' (first
    | (refine bltG (by first | omega | (simp only [List.length_map] at *; omega)) ?_; conv => whnf)
    | (refine ndG (by assumption) ?_; conv => whnf)
    | (refine mulG ?_; conv => whnf)
    | (refine And.intro rfl ?_; conv => whnf)
    | (refine dsT (by assumption) ?_; conv => whnf)
    | (refine dsF (by assumption) ?_; conv => whnf)
    | (refine nsT (by assumption) ?_; conv => whnf)
    | (refine nsF (by assumption) ?_; conv => whnf)
    | (refine bsT (by assumption) ?_; conv => whnf)
    | (refine bsF (by assumption) ?_; conv => whnf)
    | (refine dsp ?_ ?_ <;> intro _ <;> conv => whnf)
    | (refine nsp ?_ ?_ <;> intro _ <;> conv => whnf)
    | (refine cnd_true (by assumption) ?_; conv => whnf)
    | (refine cnd_false (by assumption) ?_; conv => whnf)
    | (refine cnd_split ?_ ?_ <;> intro _ <;> conv => whnf)
    | (refine Cd.par tabOk (by kernel_rfl) (by kernel_rfl) ?_; conv => whnf)
    | (refine Fc.use (hck) ?_ ?_; (focus ((repeat' constructor); done)); conv => whnf)
    | (refine CallQ.of (hck) ?_ ?_; (focus ((repeat' constructor); done)); conv => whnf)
    | (refine Cd.unroll tabOk 1 ?_; conv => whnf))
  all_goals repeat' constructor
def smF (a : Ar) (j : Int) : Int := smS (slotsOf a) j
theorem c_Sums (a : Ar) (ha : a.bd) : Fc Tryz.prog n_digest_Sums [a.sv] (dig (smF a 0) (smF a 1) (smF a 2) (smF a 3)) := by
  unfold smF slotsOf
  by_cases hk : arOk a
  · simp only [if_pos hk]; exact c_digest_Sums a ha hk
  · simp only [if_neg hk]; exact c_digest_Sums_no a ha hk
/-- Is a bucket asked for? -/
def askd (mask b : Int) : Prop := 0 ≤ mask ∧ mask ≤ 15 ∧ bitI .and .i64 (mask.fdiv (2 ^ (min b.toNat 64))) 1 = 1
instance (mask b : Int) : Decidable (askd mask b) := by unfold askd; infer_instance
theorem ndE {α : Type} {o : Option α} {x : α} {k : α → Prop} (h : o = some x) (hk : k x) : nd o k := by rw [h]; exact hk
theorem t_asked (mask b : Int) (hb : 0 ≤ b ∧ b < 4) (H : Hp) (hx : nth H.boxes 1 = some (.c [iv mask])) : Tr Tryz.prog n_digest_In_1 [iv b, .loc 1 0] H fun r H' => r = sb (decide (askd mask b)) ∧ H' = H := by
  refine Tr.of_body tabOk q_digest_In_1 (by kernel_rfl) ?_
  conv => whnf
  repeat' (first
    | (refine nng_mk hb.1 ?_; conv => whnf)
    | (refine ndE hx ?_; conv => whnf)
    | (refine bltG (by first | omega | (simp only [List.length_map] at *; omega)) ?_; conv => whnf)
    | (refine ndG (by assumption) ?_; conv => whnf)
    | (refine mulG ?_; conv => whnf)
    | (refine And.intro rfl ?_; conv => whnf)
    | (refine dsT (by assumption) ?_; conv => whnf)
    | (refine dsF (by assumption) ?_; conv => whnf)
    | (refine nsT (by assumption) ?_; conv => whnf)
    | (refine nsF (by assumption) ?_; conv => whnf)
    | (refine bsT (by assumption) ?_; conv => whnf)
    | (refine bsF (by assumption) ?_; conv => whnf)
    | (refine dsp ?_ ?_ <;> intro _ <;> conv => whnf)
    | (refine nsp ?_ ?_ <;> intro _ <;> conv => whnf)
    | (refine cnd_true (by assumption) ?_; conv => whnf)
    | (refine cnd_false (by assumption) ?_; conv => whnf)
    | (refine cnd_split ?_ ?_ <;> intro _ <;> conv => whnf)
    | (refine Cd.par tabOk (by kernel_rfl) (by kernel_rfl) ?_; conv => whnf))
  all_goals refine ⟨?_, rfl⟩
  all_goals first
    | exact congrArg sb (decide_eq_decide.2 ⟨fun h => ⟨by assumption, by assumption, h⟩, fun h => h.2.2⟩)
    | (show sb false = _; exact congrArg sb (decide_eq_false (fun h => by unfold askd at h; omega)).symm)
end Go.Proofs.YtmjpidjdbofdjaaGreat
namespace Go.Proofs.YtmjpidjdbofdjaaGreat
open Go Go.Sy
def inS (l : List Ent) (mask most : Int) : List Ent := l.foldl (fun o e => if askd mask (bk e.val.kind e.key) ∧ (o.length : Int) < most then o ++ [e] else o) []
theorem inS_snoc (l : List Ent) (e : Ent) (mask most : Int) : inS (l ++ [e]) mask most = if askd mask (bk e.val.kind e.key) ∧ ((inS l mask most).length : Int) < most then inS l mask most ++ [e] else inS l mask most := by
  unfold inS; rw [List.foldl_append]; rfl
theorem inS_le (l : List Ent) (mask most : Int) : ∀ i, (inS (l.take i) mask most).length ≤ i
  | 0 => by simp [inS]
  | i + 1 => by
    have ih := inS_le l mask most i
    rcases Nat.lt_or_ge i l.length with hi | hi
    · rw [List.take_add_one, List.getElem?_eq_getElem hi]
      simp only [Option.toList_some]
      rw [inS_snoc]
      split <;> simp <;> omega
    · rw [List.take_of_length_le (by omega)] at *; omega
theorem apC {p1 p2 p3 p4 p5 p6 : Prop} {a b c d : Nat} {K V : Option Addr → Nat → Prop} (h1 : p1) (h2 : p2) (h3 : p3) (h4 : p4) (h5 : p5) (h6 : p6) (h7 : a ≤ b) (h8 : c ≤ d) (k : ∀ A' c', V A' c' → K A' c') : (p1 ∧ p2 ∧ p3 ∧ p4 ∧ p5 ∧ p6 ∧ a ≤ b ∧ c ≤ d) ∧ ∀ A' c', V A' c' → K A' c' := ⟨⟨h1, h2, h3, h4, h5, h6, h7, h8⟩, k⟩
theorem c_digest_In1 (a : Ar) (ha : a.bd) (hk : arOk a) (mask most : Int) : Fc Tryz.prog n_digest_In [a.sv, iv mask, iv most] (ents (inS a.slots mask most)) := by
  have hlen : a.slots.length ≤ 8 := by have h1 := hk.2.1; have h2 := hk.2.2.1; omega
  have hck := c_arena_Chunk a ha hk 0 8 (by omega) (by omega)
  have hsel : sel a.slots 0 8 a.slots.length = a.slots := by unfold sel; rw [List.take_length, List.drop_zero]; exact List.take_of_length_le (by omega)
  rw [hsel] at hck
  refine Fc.of_body tabOk q_digest_In (by kernel_rfl) ((blwL_cons (blw_ar 0 a) (blwL_cons rfl (blwL_one rfl)))) ((blw_ents 0 _)) ?_
  conv => whnf
  repeat' (first
    | (refine bltG (by first | omega | (simp only [List.length_map] at *; omega)) ?_; conv => whnf)
    | (refine ndG (by assumption) ?_; conv => whnf)
    | (refine mulG ?_; conv => whnf)
    | (refine And.intro rfl ?_; conv => whnf)
    | (refine dsT (by assumption) ?_; conv => whnf)
    | (refine dsF (by assumption) ?_; conv => whnf)
    | (refine nsT (by assumption) ?_; conv => whnf)
    | (refine nsF (by assumption) ?_; conv => whnf)
    | (refine bsT (by assumption) ?_; conv => whnf)
    | (refine bsF (by assumption) ?_; conv => whnf)
    | (refine dsp ?_ ?_ <;> intro _ <;> conv => whnf)
    | (refine nsp ?_ ?_ <;> intro _ <;> conv => whnf)
    | (refine cnd_true (by assumption) ?_; conv => whnf)
    | (refine cnd_false (by assumption) ?_; conv => whnf)
    | (refine cnd_split ?_ ?_ <;> intro _ <;> conv => whnf)
    | (refine Cd.par tabOk (by kernel_rfl) (by kernel_rfl) ?_; conv => whnf)
    | (refine Tr.of_body tabOk q_digest_slots (by kernel_rfl) ?_; conv => whnf))
  refine Cd.rangeFunc [(3, .loc 0 0), (4, .loc 1 0), (5, .loc 2 0), (7, .loc 3 0), (8, .loc 4 0)] (by repeat' constructor) ?_
  conv => whnf
  refine And.intro ⟨_, q_digest_slots_1, by kernel_rfl⟩ ?_
  refine Tr.of_body tabOk q_digest_slots_1 (by kernel_rfl) ?_
  conv => whnf
  repeat' (first
    | (refine bltG (by first | omega | (simp only [List.length_map] at *; omega)) ?_; conv => whnf)
    | (refine ndG (by assumption) ?_; conv => whnf)
    | (refine mulG ?_; conv => whnf)
    | (refine And.intro rfl ?_; conv => whnf)
    | (refine dsT (by assumption) ?_; conv => whnf)
    | (refine dsF (by assumption) ?_; conv => whnf)
    | (refine nsT (by assumption) ?_; conv => whnf)
    | (refine nsF (by assumption) ?_; conv => whnf)
    | (refine bsT (by assumption) ?_; conv => whnf)
    | (refine bsF (by assumption) ?_; conv => whnf)
    | (refine dsp ?_ ?_ <;> intro _ <;> conv => whnf)
    | (refine nsp ?_ ?_ <;> intro _ <;> conv => whnf)
    | (refine cnd_true (by assumption) ?_; conv => whnf)
    | (refine cnd_false (by assumption) ?_; conv => whnf)
    | (refine cnd_split ?_ ?_ <;> intro _ <;> conv => whnf)
    | (refine Cd.par tabOk (by kernel_rfl) (by kernel_rfl) ?_; conv => whnf)
    | (refine Fc.use (hck) ?_ ?_; (focus ((repeat' constructor); done)); conv => whnf)
    | (refine CallQ.of (hck) ?_ ?_; (focus ((repeat' constructor); done)); conv => whnf))
  refine Cd.nilRow t_Entry 9 ?_
  conv => whnf
  have hN : (a.slots.map Ent.sv).length = a.slots.length := List.length_map ..
  refine loopP2 tabOk (fun (i : Nat) (q : Q3) => i ≤ a.slots.length ∧ q.n = (inS (a.slots.take i) mask most).length ∧ RowV q.A q.n q.c)
    (fun i q => ⟨[(8, iv i), (7, iv (a.slots.map Ent.sv).length), (6, ents a.slots), (0, .yld 6), (1, .loc 5 0)], []⟩)
    (fun i q => ⟨7, [.c [iv a.cap, ents a.slots, ints a.index], .c [iv mask], .c [iv most], .c [.own 0 q.A q.n q.c], .c [.clo (.func n_digest_In_1) [] [.loc 1 0]], .c [iv a.cap, ents a.slots, ints a.index], .lp ⟨.ready, none, F_digest_In.ntmps, [(3, .loc 0 0), (4, .loc 1 0), (5, .loc 2 0), (7, .loc 3 0), (8, .loc 4 0)], _, _, _⟩], [⟨q.A, q.n, q.c, t_Entry, 9, (inS (a.slots.take i) mask most).map Ent.sv, false⟩]⟩)
    (fun i q => a.slots.length - i) 0 ⟨none, 0, 0⟩ ⟨Nat.zero_le _, by simp [inS], ⟨Nat.le_refl _, Nat.zero_le _, fun _ => ⟨rfl, rfl⟩, fun _ h => by cases h⟩⟩ (by simp only [inS, List.take_zero, List.foldl_nil, List.map_nil]; repeat' constructor) (fun _ _ => rfl) ?_
  rintro i ⟨A, m, c⟩ ⟨hi, hm, hv⟩
  simp only at hm hv
  conv => whnf
  refine dsp ?_ ?_ <;> intro hlt <;> conv => whnf
  · rw [hN] at hlt
    obtain ⟨x, hx⟩ : ∃ x, a.slots[i]? = some x := ⟨_, List.getElem?_eq_getElem (by omega)⟩
    have hxm : x ∈ a.slots := List.mem_of_getElem? hx
    have hok := hk.2.2.2.1 x hxm
    have hB := c_digest_Bucket x.val.kind x.key (by have := hok.2.1; omega)
    have hml : m ≤ 8 := by have := inS_le a.slots mask most i; omega
    have hS : inS (a.slots.take (i + 1)) mask most = if askd mask (bk x.val.kind x.key) ∧ ((inS (a.slots.take i) mask most).length : Int) < most then inS (a.slots.take i) mask most ++ [x] else inS (a.slots.take i) mask most := by
      rw [List.take_add_one, hx]; exact inS_snoc _ _ _ _
    rw [← hm] at hS
    have hbd := bk_bd x.val.kind x.key
    generalize bk x.val.kind x.key = b at hB hS hbd
    by_cases hq : askd mask b
    · by_cases hl : (m : Int) < most
      · rw [if_pos ⟨hq, hl⟩] at hS
        have hmx : m + 1 ≤ maxLen := by have : 19 ≤ maxLen := by decide
                                        omega
        have hby : (m + 1) * 120 ≤ 140737488355328 := by omega
        repeat' (first
          | (refine apC rfl rfl rfl rfl rfl rfl hmx hby fun A' c' hv' => ?_; conv => whnf)
          | (refine Cd.parT tabOk (by kernel_rfl) [8] rfl ?_; conv => whnf)
          | (refine Tr.thn (t_asked mask b hbd _ rfl) ?_; conv => whnf)
          | (refine bltG (by first | omega | (simp only [List.length_map] at *; omega)) ?_; conv => whnf)
          | (refine ndG (by assumption) ?_; conv => whnf)
          | (refine mulG ?_; conv => whnf)
          | (refine And.intro rfl ?_; conv => whnf)
          | (refine dsT (by assumption) ?_; conv => whnf)
          | (refine dsF (by assumption) ?_; conv => whnf)
          | (refine nsT (by assumption) ?_; conv => whnf)
          | (refine nsF (by assumption) ?_; conv => whnf)
          | (refine bsT (by assumption) ?_; conv => whnf)
          | (refine bsF (by assumption) ?_; conv => whnf)
          | (refine dsp ?_ ?_ <;> intro _ <;> conv => whnf)
          | (refine nsp ?_ ?_ <;> intro _ <;> conv => whnf)
          | (refine cnd_true (by assumption) ?_; conv => whnf)
          | (refine cnd_false (by assumption) ?_; conv => whnf)
          | (refine cnd_split ?_ ?_ <;> intro _ <;> conv => whnf)
          | (refine Cd.par tabOk (by kernel_rfl) (by kernel_rfl) ?_; conv => whnf)
          | (refine Fc.use (hB) ?_ ?_; (focus ((repeat' constructor); done)); conv => whnf)
          | (refine CallQ.of (hB) ?_ ?_; (focus ((repeat' constructor); done)); conv => whnf)
          | (refine RdQ.of_vc tabOk ?_; (conv => whnf); intro _; conv => whnf)
          | rfl
          | exact True.intro
          | (refine And.intro ?_ ?_ <;> conv => whnf)
          | (rw [lf_eq]; conv => whnf))
        refine ⟨i + 1, ⟨A', m + 1, c'⟩, ⟨by omega, by rw [hS, List.length_append, ← hm]; rfl, hv'⟩, by omega, ⟨?_, rfl, ⟨?_, trivial⟩, ?_, rfl, (.inr ⟨by simp [blwE, blw_iv, blw_ents, blw] <;> rfl, rfl, by simp [blwB, blwX, blwL, blw_iv, blw_ents, blw_ints, blw, blwE] <;> rfl, by simp [blwR, blwL_map (blw_ent _), blw_ent]⟩)⟩⟩
        · (repeat' constructor) <;> (refine ivW ?_ ?_ ?_ <;> omega)
        · exact rowEq (by rw [hS, List.map_append]; rfl)
        · repeat' constructor
      · rw [if_neg (fun h => hl h.2)] at hS
        repeat' (first
          | (refine Cd.parT tabOk (by kernel_rfl) [8] rfl ?_; conv => whnf)
          | (refine Tr.thn (t_asked mask b hbd _ rfl) ?_; conv => whnf)
          | (refine bltG (by first | omega | (simp only [List.length_map] at *; omega)) ?_; conv => whnf)
          | (refine ndG (by assumption) ?_; conv => whnf)
          | (refine mulG ?_; conv => whnf)
          | (refine And.intro rfl ?_; conv => whnf)
          | (refine dsT (by assumption) ?_; conv => whnf)
          | (refine dsF (by assumption) ?_; conv => whnf)
          | (refine nsT (by assumption) ?_; conv => whnf)
          | (refine nsF (by assumption) ?_; conv => whnf)
          | (refine bsT (by assumption) ?_; conv => whnf)
          | (refine bsF (by assumption) ?_; conv => whnf)
          | (refine dsp ?_ ?_ <;> intro _ <;> conv => whnf)
          | (refine nsp ?_ ?_ <;> intro _ <;> conv => whnf)
          | (refine cnd_true (by assumption) ?_; conv => whnf)
          | (refine cnd_false (by assumption) ?_; conv => whnf)
          | (refine cnd_split ?_ ?_ <;> intro _ <;> conv => whnf)
          | (refine Cd.par tabOk (by kernel_rfl) (by kernel_rfl) ?_; conv => whnf)
          | (refine Fc.use (hB) ?_ ?_; (focus ((repeat' constructor); done)); conv => whnf)
          | (refine CallQ.of (hB) ?_ ?_; (focus ((repeat' constructor); done)); conv => whnf)
          | (refine RdQ.of_vc tabOk ?_; (conv => whnf); intro _; conv => whnf)
          | rfl
          | exact True.intro
          | (refine And.intro ?_ ?_ <;> conv => whnf))
        refine ⟨i + 1, ⟨A, m, c⟩, ⟨by omega, by rw [hS, ← hm], hv⟩, by omega, ⟨?_, rfl, ⟨?_, trivial⟩, ?_, rfl, (.inr ⟨by simp [blwE, blw_iv, blw_ents, blw] <;> rfl, rfl, by simp [blwB, blwX, blwL, blw_iv, blw_ents, blw_ints, blw, blwE] <;> rfl, by simp [blwR, blwL_map (blw_ent _), blw_ent]⟩)⟩⟩
        · (repeat' constructor) <;> (refine ivW ?_ ?_ ?_ <;> omega)
        · exact rowEq (by rw [hS])
        · repeat' constructor
    · rw [if_neg (fun h => hq h.1)] at hS
      repeat' (first
        | (refine Cd.parT tabOk (by kernel_rfl) [8] rfl ?_; conv => whnf)
        | (refine Tr.thn (t_asked mask b hbd _ rfl) ?_; conv => whnf)
        | (refine bltG (by first | omega | (simp only [List.length_map] at *; omega)) ?_; conv => whnf)
        | (refine ndG (by assumption) ?_; conv => whnf)
        | (refine mulG ?_; conv => whnf)
        | (refine And.intro rfl ?_; conv => whnf)
        | (refine dsT (by assumption) ?_; conv => whnf)
        | (refine dsF (by assumption) ?_; conv => whnf)
        | (refine nsT (by assumption) ?_; conv => whnf)
        | (refine nsF (by assumption) ?_; conv => whnf)
        | (refine bsT (by assumption) ?_; conv => whnf)
        | (refine bsF (by assumption) ?_; conv => whnf)
        | (refine dsp ?_ ?_ <;> intro _ <;> conv => whnf)
        | (refine nsp ?_ ?_ <;> intro _ <;> conv => whnf)
        | (refine cnd_true (by assumption) ?_; conv => whnf)
        | (refine cnd_false (by assumption) ?_; conv => whnf)
        | (refine cnd_split ?_ ?_ <;> intro _ <;> conv => whnf)
        | (refine Cd.par tabOk (by kernel_rfl) (by kernel_rfl) ?_; conv => whnf)
        | (refine Fc.use (hB) ?_ ?_; (focus ((repeat' constructor); done)); conv => whnf)
        | (refine CallQ.of (hB) ?_ ?_; (focus ((repeat' constructor); done)); conv => whnf)
        | (refine RdQ.of_vc tabOk ?_; (conv => whnf); intro _; conv => whnf)
        | rfl
        | exact True.intro
        | (refine And.intro ?_ ?_ <;> conv => whnf))
      all_goals
        refine ⟨i + 1, ⟨A, m, c⟩, ⟨by omega, by rw [hS, ← hm], hv⟩, by omega, ⟨?_, rfl, ⟨?_, trivial⟩, ?_, rfl, (.inr ⟨by simp [blwE, blw_iv, blw_ents, blw] <;> rfl, rfl, by simp [blwB, blwX, blwL, blw_iv, blw_ents, blw_ints, blw, blwE] <;> rfl, by simp [blwR, blwL_map (blw_ent _), blw_ent]⟩)⟩⟩
        · (repeat' constructor) <;> (refine ivW ?_ ?_ ?_ <;> omega)
        · exact rowEq (by rw [hS])
        · repeat' constructor
  · obtain rfl : i = a.slots.length := by omega
    simp only [List.take_length] at hm
    repeat' (first
      | (refine bltG (by first | omega | (simp only [List.length_map] at *; omega)) ?_; conv => whnf)
      | (refine ndG (by assumption) ?_; conv => whnf)
      | (refine mulG ?_; conv => whnf)
      | (refine And.intro rfl ?_; conv => whnf)
      | (refine dsT (by assumption) ?_; conv => whnf)
      | (refine dsF (by assumption) ?_; conv => whnf)
      | (refine nsT (by assumption) ?_; conv => whnf)
      | (refine nsF (by assumption) ?_; conv => whnf)
      | (refine bsT (by assumption) ?_; conv => whnf)
      | (refine bsF (by assumption) ?_; conv => whnf)
      | (refine dsp ?_ ?_ <;> intro _ <;> conv => whnf)
      | (refine nsp ?_ ?_ <;> intro _ <;> conv => whnf)
      | (refine cnd_true (by assumption) ?_; conv => whnf)
      | (refine cnd_false (by assumption) ?_; conv => whnf)
      | (refine cnd_split ?_ ?_ <;> intro _ <;> conv => whnf)
      | (refine Cd.par tabOk (by kernel_rfl) (by kernel_rfl) ?_; conv => whnf))
    simp only [List.take_length]
    repeat' constructor
end Go.Proofs.YtmjpidjdbofdjaaGreat

