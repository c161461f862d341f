import Derived.Test.YtmjpidjdbofdjaaGreatRd
/- Contracts of the references: sums of buckets. -/
set_option linter.unusedVariables false
set_option linter.unusedSimpArgs false
set_option maxRecDepth 100000
set_option maxHeartbeats 1600000
namespace Go.Proofs.YtmjpidjdbofdjaaGreat
open Go Go.Sy
theorem r_Bucket (kind : Int) (key : ByteArray) (hk : key.size < 2 ^ 30) (h0 : 0 ≤ kind ∧ kind < 256) : Fc Tryz.prog n_ouroborosref10_Bucket [iv kind, ss key] (iv (bk kind key)) := by
  have h := r_Sum (byteT kind ++ key) (by rw [ByteArray.size_append, byteT_size]; omega)
  have hz : (byteT kind).size + key.size ≤ 9223372036854775807 := by rw [byteT_size]; omega
  have hm : (IntKind.wrap .i64 (kind.tmod 256 + 256)).tmod 256 = kind := by
    rw [Int.tmod_eq_emod_of_nonneg h0.1, wrap_i64 (by omega) (by omega), Int.tmod_eq_emod_of_nonneg (by omega)]; omega
  have hB : [SV.v (.int .u8 (IntKind.wrap .u8 ((IntKind.wrap .i64 (kind.tmod 256 + 256)).tmod 256)))] = bytesSV (byteT kind) := by rw [hm]; exact byteT_sv kind
  refine Fc.of_body tabOk q_ouroborosref10_Bucket (by kernel_rfl) (rfl) (rfl) ?_
  conv => whnf
  repeat' (first
    | (refine addSz hz ?_; conv => whnf)
    | (refine exB (byteT kind) hB ?_; conv => whnf)
    | (refine bltG (by first | omega | (simp only [List.length_map] at *; omega)) ?_; conv => whnf)
    | (refine ndG (by assumption) ?_; conv => whnf)
    | (refine mulG ?_; conv => whnf)
    | (refine And.intro rfl ?_; conv => whnf)
    | (refine dsT (by assumption) ?_; conv => whnf)
    | (refine dsF (by assumption) ?_; conv => whnf)
    | (refine nsT (by assumption) ?_; conv => whnf)
    | (refine nsF (by assumption) ?_; conv => whnf)
    | (refine bsT (by assumption) ?_; conv => whnf)
    | (refine bsF (by assumption) ?_; conv => whnf)
    | (refine dsp ?_ ?_ <;> intro _ <;> conv => whnf)
    | (refine nsp ?_ ?_ <;> intro _ <;> conv => whnf)
    | (refine cnd_true (by assumption) ?_; conv => whnf)
    | (refine cnd_false (by assumption) ?_; conv => whnf)
    | (refine cnd_split ?_ ?_ <;> intro _ <;> conv => whnf)
    | (refine Cd.par tabOk (by kernel_rfl) (by kernel_rfl) ?_; conv => whnf)
    | (refine Fc.use (h) ?_ ?_; (focus ((repeat' constructor); done)); conv => whnf)
    | (refine CallQ.of (h) ?_ ?_; (focus ((repeat' constructor); done)); conv => whnf))
  all_goals rfl
theorem r_bit0 : Fc Tryz.prog n_ouroborosref10_bit [iv 0] (iv 1) := by
  refine Fc.of_body tabOk q_ouroborosref10_bit (by kernel_rfl) (rfl) (rfl) ?_
  conv => whnf
  repeat' (first
    | (refine bltG (by first | omega | (simp only [List.length_map] at *; omega)) ?_; conv => whnf)
    | (refine ndG (by assumption) ?_; conv => whnf)
    | (refine mulG ?_; conv => whnf)
    | (refine And.intro rfl ?_; conv => whnf)
    | (refine dsT (by assumption) ?_; conv => whnf)
    | (refine dsF (by assumption) ?_; conv => whnf)
    | (refine nsT (by assumption) ?_; conv => whnf)
    | (refine nsF (by assumption) ?_; conv => whnf)
    | (refine bsT (by assumption) ?_; conv => whnf)
    | (refine bsF (by assumption) ?_; conv => whnf)
    | (refine dsp ?_ ?_ <;> intro _ <;> conv => whnf)
    | (refine nsp ?_ ?_ <;> intro _ <;> conv => whnf)
    | (refine cnd_true (by assumption) ?_; conv => whnf)
    | (refine cnd_false (by assumption) ?_; conv => whnf)
    | (refine cnd_split ?_ ?_ <;> intro _ <;> conv => whnf)
    | (refine Cd.par tabOk (by kernel_rfl) (by kernel_rfl) ?_; conv => whnf))
  all_goals rfl
theorem r_bit1 : Fc Tryz.prog n_ouroborosref10_bit [iv 1] (iv 2) := by
  refine Fc.of_body tabOk q_ouroborosref10_bit (by kernel_rfl) (rfl) (rfl) ?_
  conv => whnf
  repeat' (first
    | (refine bltG (by first | omega | (simp only [List.length_map] at *; omega)) ?_; conv => whnf)
    | (refine ndG (by assumption) ?_; conv => whnf)
    | (refine mulG ?_; conv => whnf)
    | (refine And.intro rfl ?_; conv => whnf)
    | (refine dsT (by assumption) ?_; conv => whnf)
    | (refine dsF (by assumption) ?_; conv => whnf)
    | (refine nsT (by assumption) ?_; conv => whnf)
    | (refine nsF (by assumption) ?_; conv => whnf)
    | (refine bsT (by assumption) ?_; conv => whnf)
    | (refine bsF (by assumption) ?_; conv => whnf)
    | (refine dsp ?_ ?_ <;> intro _ <;> conv => whnf)
    | (refine nsp ?_ ?_ <;> intro _ <;> conv => whnf)
    | (refine cnd_true (by assumption) ?_; conv => whnf)
    | (refine cnd_false (by assumption) ?_; conv => whnf)
    | (refine cnd_split ?_ ?_ <;> intro _ <;> conv => whnf)
    | (refine Cd.par tabOk (by kernel_rfl) (by kernel_rfl) ?_; conv => whnf))
  all_goals rfl
theorem r_bit2 : Fc Tryz.prog n_ouroborosref10_bit [iv 2] (iv 4) := by
  refine Fc.of_body tabOk q_ouroborosref10_bit (by kernel_rfl) (rfl) (rfl) ?_
  conv => whnf
  repeat' (first
    | (refine bltG (by first | omega | (simp only [List.length_map] at *; omega)) ?_; conv => whnf)
    | (refine ndG (by assumption) ?_; conv => whnf)
    | (refine mulG ?_; conv => whnf)
    | (refine And.intro rfl ?_; conv => whnf)
    | (refine dsT (by assumption) ?_; conv => whnf)
    | (refine dsF (by assumption) ?_; conv => whnf)
    | (refine nsT (by assumption) ?_; conv => whnf)
    | (refine nsF (by assumption) ?_; conv => whnf)
    | (refine bsT (by assumption) ?_; conv => whnf)
    | (refine bsF (by assumption) ?_; conv => whnf)
    | (refine dsp ?_ ?_ <;> intro _ <;> conv => whnf)
    | (refine nsp ?_ ?_ <;> intro _ <;> conv => whnf)
    | (refine cnd_true (by assumption) ?_; conv => whnf)
    | (refine cnd_false (by assumption) ?_; conv => whnf)
    | (refine cnd_split ?_ ?_ <;> intro _ <;> conv => whnf)
    | (refine Cd.par tabOk (by kernel_rfl) (by kernel_rfl) ?_; conv => whnf))
  all_goals rfl
theorem r_bit3 : Fc Tryz.prog n_ouroborosref10_bit [iv 3] (iv 8) := by
  refine Fc.of_body tabOk q_ouroborosref10_bit (by kernel_rfl) (rfl) (rfl) ?_
  conv => whnf
  repeat' (first
    | (refine bltG (by first | omega | (simp only [List.length_map] at *; omega)) ?_; conv => whnf)
    | (refine ndG (by assumption) ?_; conv => whnf)
    | (refine mulG ?_; conv => whnf)
    | (refine And.intro rfl ?_; conv => whnf)
    | (refine dsT (by assumption) ?_; conv => whnf)
    | (refine dsF (by assumption) ?_; conv => whnf)
    | (refine nsT (by assumption) ?_; conv => whnf)
    | (refine nsF (by assumption) ?_; conv => whnf)
    | (refine bsT (by assumption) ?_; conv => whnf)
    | (refine bsF (by assumption) ?_; conv => whnf)
    | (refine dsp ?_ ?_ <;> intro _ <;> conv => whnf)
    | (refine nsp ?_ ?_ <;> intro _ <;> conv => whnf)
    | (refine cnd_true (by assumption) ?_; conv => whnf)
    | (refine cnd_false (by assumption) ?_; conv => whnf)
    | (refine cnd_split ?_ ?_ <;> intro _ <;> conv => whnf)
    | (refine Cd.par tabOk (by kernel_rfl) (by kernel_rfl) ?_; conv => whnf))
  all_goals rfl
theorem r_Differ (a b c d a' b' c' d' : Int) : Fc Tryz.prog n_ouroborosref10_Differ [dig a b c d, dig a' b' c' d'] (iv (dif a b c d a' b' c' d')) := by
  refine Fc.of_body tabOk q_ouroborosref10_Differ (by kernel_rfl) (rfl) (rfl) ?_
  conv => whnf
  repeat' (first
    | (refine bltG (by first | omega | (simp only [List.length_map] at *; omega)) ?_; conv => whnf)
    | (refine ndG (by assumption) ?_; conv => whnf)
    | (refine mulG ?_; conv => whnf)
    | (refine And.intro rfl ?_; conv => whnf)
    | (refine dsT (by assumption) ?_; conv => whnf)
    | (refine dsF (by assumption) ?_; conv => whnf)
    | (refine nsT (by assumption) ?_; conv => whnf)
    | (refine nsF (by assumption) ?_; conv => whnf)
    | (refine bsT (by assumption) ?_; conv => whnf)
    | (refine bsF (by assumption) ?_; conv => whnf)
    | (refine dsp ?_ ?_ <;> intro _ <;> conv => whnf)
    | (refine nsp ?_ ?_ <;> intro _ <;> conv => whnf)
    | (refine cnd_true (by assumption) ?_; conv => whnf)
    | (refine cnd_false (by assumption) ?_; conv => whnf)
    | (refine cnd_split ?_ ?_ <;> intro _ <;> conv => whnf)
    | (refine Cd.par tabOk (by kernel_rfl) (by kernel_rfl) ?_; conv => whnf)
    | (refine Fc.use (r_bit0) ?_ ?_; (focus ((repeat' constructor); done)); conv => whnf)
    | (refine CallQ.of (r_bit0) ?_ ?_; (focus ((repeat' constructor); done)); conv => whnf)
    | (refine Fc.use (r_bit1) ?_ ?_; (focus ((repeat' constructor); done)); conv => whnf)
    | (refine CallQ.of (r_bit1) ?_ ?_; (focus ((repeat' constructor); done)); conv => whnf)
    | (refine Fc.use (r_bit2) ?_ ?_; (focus ((repeat' constructor); done)); conv => whnf)
    | (refine CallQ.of (r_bit2) ?_ ?_; (focus ((repeat' constructor); done)); conv => whnf)
    | (refine Fc.use (r_bit3) ?_ ?_; (focus ((repeat' constructor); done)); conv => whnf)
    | (refine CallQ.of (r_bit3) ?_ ?_; (focus ((repeat' constructor); done)); conv => whnf)
    | (refine Cd.unroll tabOk 5 ?_; conv => whnf))
  all_goals (simp only [dif, *, if_true, if_false]; kernel_rfl)
theorem ar_len {a : Ar} (h : arOk a) : a.slots.length ≤ 8 := by have h1 := h.2.1; have h2 := h.2.2.1; omega
theorem smS_take {l : List Ent} {i : Nat} {x : Ent} (hx : l[i]? = some x) (j : Int) : smS (l.take (i + 1)) j = if bk x.val.kind x.key = j then bitI .xor .i64 (smS (l.take i) j) (putS x) else smS (l.take i) j := by
  rw [List.take_add_one, hx]; exact smS_snoc _ _ _
theorem entT_small2 {e : Ent} (h : entOk e) : (entT e).size < 2 ^ 40 := entT_small e h
theorem r_Sums (a : Ar) (ha : a.bd) (hf : a.fw) : Fc Tryz.prog n_ouroborosref10_Sums [a.sv] (dig (smF a 0) (smF a 1) (smF a 2) (smF a 3)) := by
  have hc := r_ar_Check a ha
  unfold smF slotsOf
  by_cases hk : arOk a
  case neg =>
    simp only [if_neg hk]
    rw [decide_eq_false hk] at hc
    refine Fc.of_body tabOk q_ouroborosref10_Sums (by kernel_rfl) ((blwL_one (blw_ar 0 a))) (rfl) ?_
    conv => whnf
    repeat' (first
      | (refine bltG (by first | omega | (simp only [List.length_map] at *; omega)) ?_; conv => whnf)
      | (refine ndG (by assumption) ?_; conv => whnf)
      | (refine mulG ?_; conv => whnf)
      | (refine And.intro rfl ?_; conv => whnf)
      | (refine dsT (by assumption) ?_; conv => whnf)
      | (refine dsF (by assumption) ?_; conv => whnf)
      | (refine nsT (by assumption) ?_; conv => whnf)
      | (refine nsF (by assumption) ?_; conv => whnf)
      | (refine bsT (by assumption) ?_; conv => whnf)
      | (refine bsF (by assumption) ?_; conv => whnf)
      | (refine dsp ?_ ?_ <;> intro _ <;> conv => whnf)
      | (refine nsp ?_ ?_ <;> intro _ <;> conv => whnf)
      | (refine cnd_true (by assumption) ?_; conv => whnf)
      | (refine cnd_false (by assumption) ?_; conv => whnf)
      | (refine cnd_split ?_ ?_ <;> intro _ <;> conv => whnf)
      | (refine Cd.par tabOk (by kernel_rfl) (by kernel_rfl) ?_; conv => whnf)
      | (refine Fc.use (hc) ?_ ?_; (focus ((repeat' constructor); done)); conv => whnf)
      | (refine CallQ.of (hc) ?_ ?_; (focus ((repeat' constructor); done)); conv => whnf))
    all_goals first | rfl | (repeat' constructor)
  simp only [if_pos hk]
  rw [decide_eq_true hk] at hc
  have hlen := ar_len hk
  have hN : (a.slots.map Ent.sv).length = a.slots.length := List.length_map ..
  refine Fc.of_body tabOk q_ouroborosref10_Sums (by kernel_rfl) ((blwL_one (blw_ar 0 a))) (rfl) ?_
  conv => whnf
  repeat' (first
    | (refine bltG (by first | omega | (simp only [List.length_map] at *; omega)) ?_; conv => whnf)
    | (refine ndG (by assumption) ?_; conv => whnf)
    | (refine mulG ?_; conv => whnf)
    | (refine And.intro rfl ?_; conv => whnf)
    | (refine dsT (by assumption) ?_; conv => whnf)
    | (refine dsF (by assumption) ?_; conv => whnf)
    | (refine nsT (by assumption) ?_; conv => whnf)
    | (refine nsF (by assumption) ?_; conv => whnf)
    | (refine bsT (by assumption) ?_; conv => whnf)
    | (refine bsF (by assumption) ?_; conv => whnf)
    | (refine dsp ?_ ?_ <;> intro _ <;> conv => whnf)
    | (refine nsp ?_ ?_ <;> intro _ <;> conv => whnf)
    | (refine cnd_true (by assumption) ?_; conv => whnf)
    | (refine cnd_false (by assumption) ?_; conv => whnf)
    | (refine cnd_split ?_ ?_ <;> intro _ <;> conv => whnf)
    | (refine Cd.par tabOk (by kernel_rfl) (by kernel_rfl) ?_; conv => whnf)
    | (refine Fc.use (hc) ?_ ?_; (focus ((repeat' constructor); done)); conv => whnf)
    | (refine CallQ.of (hc) ?_ ?_; (focus ((repeat' constructor); done)); conv => whnf))
  refine loopP tabOk (fun i : Nat => i ≤ a.slots.length) (fun i => ⟨[(4, iv i), (3, .loc 2 0), (2, .loc 1 0), (1, .loc 0 0)], []⟩)
    (fun i => ⟨3, [.c [iv a.cap, ents a.slots, ints a.index], .c [iv 0, iv 0, iv 0, iv 0], .c [iv (smS (a.slots.take i) 0), iv (smS (a.slots.take i) 1), iv (smS (a.slots.take i) 2), iv (smS (a.slots.take i) 3)]], []⟩) (fun i => a.slots.length - i) 0 (Nat.zero_le _) (by simp only [smS, List.take_zero, List.foldl_nil]; repeat' constructor) (fun _ => rfl) ?_
  intro i hi
  conv => whnf
  refine dsp ?_ ?_ <;> intro hlt <;> conv => whnf
  · rw [hN] at hlt
    obtain ⟨x, hx⟩ : ∃ x, a.slots[i]? = some x := ⟨_, List.getElem?_eq_getElem (by omega)⟩
    have hxm : x ∈ a.slots := List.mem_of_getElem? hx
    have hok := hk.2.2.2.1 x hxm
    have hkd : 1 ≤ x.val.kind ∧ x.val.kind ≤ 3 := by rcases hok.2.2 with h | h | h <;> omega
    have hB := r_Bucket x.val.kind x.key (by have := hok.2.1; omega) (by omega)
    have hP := r_ent_Put x hok.bd (hf x hxm)
    rw [if_pos hok, if_pos hok] at hP
    have hS := r_Sum (entT x) (entT_small x hok)
    have hps : putS x = crcS (entT x) := by unfold putS; rw [if_pos hok]
    have t0 := smS_take hx 0
    have t1 := smS_take hx 1
    have t2 := smS_take hx 2
    have t3 := smS_take hx 3
    rw [hps] at t0 t1 t2 t3
    have hbd := bk_bd x.val.kind x.key
    generalize crcS (entT x) = cs at *
    generalize entT x = tx at *
    generalize bk x.val.kind x.key = b at *
    rcases four hbd with rfl | rfl | rfl | rfl
    · rw [if_pos rfl] at t0
      rw [if_neg (by decide)] at t1 t2 t3
      repeat' (first
        | (refine Cd.parT tabOk (by kernel_rfl) [8] rfl ?_; conv => whnf)
        | (refine bltG (by first | omega | (simp only [List.length_map] at *; omega)) ?_; conv => whnf)
        | (refine ndG (by assumption) ?_; conv => whnf)
        | (refine mulG ?_; conv => whnf)
        | (refine And.intro rfl ?_; conv => whnf)
        | (refine dsT (by assumption) ?_; conv => whnf)
        | (refine dsF (by assumption) ?_; conv => whnf)
        | (refine nsT (by assumption) ?_; conv => whnf)
        | (refine nsF (by assumption) ?_; conv => whnf)
        | (refine bsT (by assumption) ?_; conv => whnf)
        | (refine bsF (by assumption) ?_; conv => whnf)
        | (refine dsp ?_ ?_ <;> intro _ <;> conv => whnf)
        | (refine nsp ?_ ?_ <;> intro _ <;> conv => whnf)
        | (refine cnd_true (by assumption) ?_; conv => whnf)
        | (refine cnd_false (by assumption) ?_; conv => whnf)
        | (refine cnd_split ?_ ?_ <;> intro _ <;> conv => whnf)
        | (refine Cd.par tabOk (by kernel_rfl) (by kernel_rfl) ?_; conv => whnf)
        | (refine Fc.use (hP) ?_ ?_; (focus ((repeat' constructor); done)); conv => whnf)
        | (refine CallQ.of (hP) ?_ ?_; (focus ((repeat' constructor); done)); conv => whnf)
        | (refine Fc.use (hB) ?_ ?_; (focus ((repeat' constructor); done)); conv => whnf)
        | (refine CallQ.of (hB) ?_ ?_; (focus ((repeat' constructor); done)); conv => whnf)
        | (refine Fc.use (hS) ?_ ?_; (focus ((repeat' constructor); done)); conv => whnf)
        | (refine CallQ.of (hS) ?_ ?_; (focus ((repeat' constructor); done)); conv => whnf)
        | rfl
        | exact True.intro
        | (refine And.intro ?_ ?_ <;> conv => whnf))
      refine ⟨i + 1, by omega, by omega, ⟨?_, rfl, trivial, ?_, rfl, .inl rfl⟩⟩
      · (repeat' constructor) <;> (refine ivW ?_ ?_ ?_ <;> omega)
      · simp only [t0, t1, t2, t3]; repeat' constructor
    · rw [if_pos rfl] at t1
      rw [if_neg (by decide)] at t0 t2 t3
      repeat' (first
        | (refine Cd.parT tabOk (by kernel_rfl) [8] rfl ?_; conv => whnf)
        | (refine bltG (by first | omega | (simp only [List.length_map] at *; omega)) ?_; conv => whnf)
        | (refine ndG (by assumption) ?_; conv => whnf)
        | (refine mulG ?_; conv => whnf)
        | (refine And.intro rfl ?_; conv => whnf)
        | (refine dsT (by assumption) ?_; conv => whnf)
        | (refine dsF (by assumption) ?_; conv => whnf)
        | (refine nsT (by assumption) ?_; conv => whnf)
        | (refine nsF (by assumption) ?_; conv => whnf)
        | (refine bsT (by assumption) ?_; conv => whnf)
        | (refine bsF (by assumption) ?_; conv => whnf)
        | (refine dsp ?_ ?_ <;> intro _ <;> conv => whnf)
        | (refine nsp ?_ ?_ <;> intro _ <;> conv => whnf)
        | (refine cnd_true (by assumption) ?_; conv => whnf)
        | (refine cnd_false (by assumption) ?_; conv => whnf)
        | (refine cnd_split ?_ ?_ <;> intro _ <;> conv => whnf)
        | (refine Cd.par tabOk (by kernel_rfl) (by kernel_rfl) ?_; conv => whnf)
        | (refine Fc.use (hP) ?_ ?_; (focus ((repeat' constructor); done)); conv => whnf)
        | (refine CallQ.of (hP) ?_ ?_; (focus ((repeat' constructor); done)); conv => whnf)
        | (refine Fc.use (hB) ?_ ?_; (focus ((repeat' constructor); done)); conv => whnf)
        | (refine CallQ.of (hB) ?_ ?_; (focus ((repeat' constructor); done)); conv => whnf)
        | (refine Fc.use (hS) ?_ ?_; (focus ((repeat' constructor); done)); conv => whnf)
        | (refine CallQ.of (hS) ?_ ?_; (focus ((repeat' constructor); done)); conv => whnf)
        | rfl
        | exact True.intro
        | (refine And.intro ?_ ?_ <;> conv => whnf))
      refine ⟨i + 1, by omega, by omega, ⟨?_, rfl, trivial, ?_, rfl, .inl rfl⟩⟩
      · (repeat' constructor) <;> (refine ivW ?_ ?_ ?_ <;> omega)
      · simp only [t0, t1, t2, t3]; repeat' constructor
    · rw [if_pos rfl] at t2
      rw [if_neg (by decide)] at t0 t1 t3
      repeat' (first
        | (refine Cd.parT tabOk (by kernel_rfl) [8] rfl ?_; conv => whnf)
        | (refine bltG (by first | omega | (simp only [List.length_map] at *; omega)) ?_; conv => whnf)
        | (refine ndG (by assumption) ?_; conv => whnf)
        | (refine mulG ?_; conv => whnf)
        | (refine And.intro rfl ?_; conv => whnf)
        | (refine dsT (by assumption) ?_; conv => whnf)
        | (refine dsF (by assumption) ?_; conv => whnf)
        | (refine nsT (by assumption) ?_; conv => whnf)
        | (refine nsF (by assumption) ?_; conv => whnf)
        | (refine bsT (by assumption) ?_; conv => whnf)
        | (refine bsF (by assumption) ?_; conv => whnf)
        | (refine dsp ?_ ?_ <;> intro _ <;> conv => whnf)
        | (refine nsp ?_ ?_ <;> intro _ <;> conv => whnf)
        | (refine cnd_true (by assumption) ?_; conv => whnf)
        | (refine cnd_false (by assumption) ?_; conv => whnf)
        | (refine cnd_split ?_ ?_ <;> intro _ <;> conv => whnf)
        | (refine Cd.par tabOk (by kernel_rfl) (by kernel_rfl) ?_; conv => whnf)
        | (refine Fc.use (hP) ?_ ?_; (focus ((repeat' constructor); done)); conv => whnf)
        | (refine CallQ.of (hP) ?_ ?_; (focus ((repeat' constructor); done)); conv => whnf)
        | (refine Fc.use (hB) ?_ ?_; (focus ((repeat' constructor); done)); conv => whnf)
        | (refine CallQ.of (hB) ?_ ?_; (focus ((repeat' constructor); done)); conv => whnf)
        | (refine Fc.use (hS) ?_ ?_; (focus ((repeat' constructor); done)); conv => whnf)
        | (refine CallQ.of (hS) ?_ ?_; (focus ((repeat' constructor); done)); conv => whnf)
        | rfl
        | exact True.intro
        | (refine And.intro ?_ ?_ <;> conv => whnf))
      refine ⟨i + 1, by omega, by omega, ⟨?_, rfl, trivial, ?_, rfl, .inl rfl⟩⟩
      · (repeat' constructor) <;> (refine ivW ?_ ?_ ?_ <;> omega)
      · simp only [t0, t1, t2, t3]; repeat' constructor
    · rw [if_pos rfl] at t3
      rw [if_neg (by decide)] at t0 t1 t2
      repeat' (first
        | (refine Cd.parT tabOk (by kernel_rfl) [8] rfl ?_; conv => whnf)
        | (refine bltG (by first | omega | (simp only [List.length_map] at *; omega)) ?_; conv => whnf)
        | (refine ndG (by assumption) ?_; conv => whnf)
        | (refine mulG ?_; conv => whnf)
        | (refine And.intro rfl ?_; conv => whnf)
        | (refine dsT (by assumption) ?_; conv => whnf)
        | (refine dsF (by assumption) ?_; conv => whnf)
        | (refine nsT (by assumption) ?_; conv => whnf)
        | (refine nsF (by assumption) ?_; conv => whnf)
        | (refine bsT (by assumption) ?_; conv => whnf)
        | (refine bsF (by assumption) ?_; conv => whnf)
        | (refine dsp ?_ ?_ <;> intro _ <;> conv => whnf)
        | (refine nsp ?_ ?_ <;> intro _ <;> conv => whnf)
        | (refine cnd_true (by assumption) ?_; conv => whnf)
        | (refine cnd_false (by assumption) ?_; conv => whnf)
        | (refine cnd_split ?_ ?_ <;> intro _ <;> conv => whnf)
        | (refine Cd.par tabOk (by kernel_rfl) (by kernel_rfl) ?_; conv => whnf)
        | (refine Fc.use (hP) ?_ ?_; (focus ((repeat' constructor); done)); conv => whnf)
        | (refine CallQ.of (hP) ?_ ?_; (focus ((repeat' constructor); done)); conv => whnf)
        | (refine Fc.use (hB) ?_ ?_; (focus ((repeat' constructor); done)); conv => whnf)
        | (refine CallQ.of (hB) ?_ ?_; (focus ((repeat' constructor); done)); conv => whnf)
        | (refine Fc.use (hS) ?_ ?_; (focus ((repeat' constructor); done)); conv => whnf)
        | (refine CallQ.of (hS) ?_ ?_; (focus ((repeat' constructor); done)); conv => whnf)
        | rfl
        | exact True.intro
        | (refine And.intro ?_ ?_ <;> conv => whnf))
      refine ⟨i + 1, by omega, by omega, ⟨?_, rfl, trivial, ?_, rfl, .inl rfl⟩⟩
      · (repeat' constructor) <;> (refine ivW ?_ ?_ ?_ <;> omega)
      · simp only [t0, t1, t2, t3]; repeat' constructor
  · obtain rfl : i = a.slots.length := by omega
    simp only [List.take_length]
    repeat' (first
      | (refine bltG (by first | omega | (simp only [List.length_map] at *; omega)) ?_; conv => whnf)
      | (refine ndG (by assumption) ?_; conv => whnf)
      | (refine mulG ?_; conv => whnf)
      | (refine And.intro rfl ?_; conv => whnf)
      | (refine dsT (by assumption) ?_; conv => whnf)
      | (refine dsF (by assumption) ?_; conv => whnf)
      | (refine nsT (by assumption) ?_; conv => whnf)
      | (refine nsF (by assumption) ?_; conv => whnf)
      | (refine bsT (by assumption) ?_; conv => whnf)
      | (refine bsF (by assumption) ?_; conv => whnf)
      | (refine dsp ?_ ?_ <;> intro _ <;> conv => whnf)
      | (refine nsp ?_ ?_ <;> intro _ <;> conv => whnf)
      | (refine cnd_true (by assumption) ?_; conv => whnf)
      | (refine cnd_false (by assumption) ?_; conv => whnf)
      | (refine cnd_split ?_ ?_ <;> intro _ <;> conv => whnf)
      | (refine Cd.par tabOk (by kernel_rfl) (by kernel_rfl) ?_; conv => whnf))
    all_goals first | rfl | (repeat' constructor)
theorem askd_shl : ∀ (m : Fin 16) (b : Fin 4), (askd ((m.1 : Nat) : Int) ((b.1 : Nat) : Int) ↔ 0 < bitI .and .i64 ((m.1 : Nat) : Int) (2 ^ b.1)) := by
  decide +kernel
theorem askd_shl' {m b : Int} (hm : 0 ≤ m ∧ m ≤ 15) (hb : 0 ≤ b ∧ b < 4) : (askd m b ↔ 0 < bitI .and .i64 m (2 ^ b.toNat)) := by
  obtain ⟨m', rfl⟩ : ∃ n : Nat, m = n := ⟨m.toNat, by omega⟩
  obtain ⟨b', rfl⟩ : ∃ n : Nat, b = n := ⟨b.toNat, by omega⟩
  exact askd_shl ⟨m', by omega⟩ ⟨b', by omega⟩
theorem r_bits {b : Int} (hb : 0 ≤ b ∧ b < 4) : Fc Tryz.prog n_ouroborosref10_bit [iv b] (iv (2 ^ b.toNat)) := by
  rcases four hb with rfl | rfl | rfl | rfl
  · exact r_bit0
  · exact r_bit1
  · exact r_bit2
  · exact r_bit3
theorem inS_stop {mask most : Int} : ∀ (r l : List Ent), most ≤ ((inS l mask most).length : Int) → inS (l ++ r) mask most = inS l mask most
  | [], l, _ => by rw [List.append_nil]
  | e :: r, l, h => by
    have e1 : inS (l ++ [e]) mask most = inS l mask most := by rw [inS_snoc, if_neg (fun q => by omega)]
    rw [show l ++ e :: r = (l ++ [e]) ++ r by simp, inS_stop r (l ++ [e]) (by rw [e1]; exact h), e1]
theorem inS_off {mask most : Int} (h : ¬ (0 ≤ mask ∧ mask ≤ 15)) (l : List Ent) : inS l mask most = [] := by
  have : ∀ (l o : List Ent), l.foldl (fun o e => if askd mask (bk e.val.kind e.key) ∧ (o.length : Int) < most then o ++ [e] else o) o = o := by
    intro l
    induction l with
    | nil => intro o; rfl
    | cons e r ih => intro o; rw [List.foldl_cons, if_neg (fun q => h ⟨q.1.1, q.1.2.1⟩), ih]
  exact this l []
theorem r_In (a : Ar) (ha : a.bd) (mask most : Int) : Fc Tryz.prog n_ouroborosref10_In [a.sv, iv mask, iv most] (ents (inF a mask most)) := by
  have hc := r_ar_Check a ha
  have bb : blwL 0 [a.sv, iv mask, iv most] = true := blwL_cons (blw_ar 0 a) (blwL_cons rfl (blwL_one rfl))
  unfold inF slotsOf
  by_cases hk : arOk a
  case neg =>
    simp only [if_neg hk]
    rw [decide_eq_false hk] at hc
    refine Fc.of_body tabOk q_ouroborosref10_In (by kernel_rfl) (bb) ((blw_ents 0 _)) ?_
    conv => whnf
    repeat' (first
      | (refine bltG (by first | omega | (simp only [List.length_map] at *; omega)) ?_; conv => whnf)
      | (refine ndG (by assumption) ?_; conv => whnf)
      | (refine mulG ?_; conv => whnf)
      | (refine And.intro rfl ?_; conv => whnf)
      | (refine dsT (by assumption) ?_; conv => whnf)
      | (refine dsF (by assumption) ?_; conv => whnf)
      | (refine nsT (by assumption) ?_; conv => whnf)
      | (refine nsF (by assumption) ?_; conv => whnf)
      | (refine bsT (by assumption) ?_; conv => whnf)
      | (refine bsF (by assumption) ?_; conv => whnf)
      | (refine dsp ?_ ?_ <;> intro _ <;> conv => whnf)
      | (refine nsp ?_ ?_ <;> intro _ <;> conv => whnf)
      | (refine cnd_true (by assumption) ?_; conv => whnf)
      | (refine cnd_false (by assumption) ?_; conv => whnf)
      | (refine cnd_split ?_ ?_ <;> intro _ <;> conv => whnf)
      | (refine Cd.par tabOk (by kernel_rfl) (by kernel_rfl) ?_; conv => whnf)
      | (refine Fc.use (hc) ?_ ?_; (focus ((repeat' constructor); done)); conv => whnf)
      | (refine CallQ.of (hc) ?_ ?_; (focus ((repeat' constructor); done)); conv => whnf))
    all_goals first | rfl | (repeat' constructor)
  simp only [if_pos hk]
  rw [decide_eq_true hk] at hc
  by_cases hm : 0 ≤ mask ∧ mask ≤ 15
  case neg =>
    rw [inS_off hm]
    by_cases h1 : mask < 0
    · refine Fc.of_body tabOk q_ouroborosref10_In (by kernel_rfl) (bb) ((blw_ents 0 _)) ?_
      conv => whnf
      repeat' (first
        | (refine bltG (by first | omega | (simp only [List.length_map] at *; omega)) ?_; conv => whnf)
        | (refine ndG (by assumption) ?_; conv => whnf)
        | (refine mulG ?_; conv => whnf)
        | (refine And.intro rfl ?_; conv => whnf)
        | (refine dsT (by assumption) ?_; conv => whnf)
        | (refine dsF (by assumption) ?_; conv => whnf)
        | (refine nsT (by assumption) ?_; conv => whnf)
        | (refine nsF (by assumption) ?_; conv => whnf)
        | (refine bsT (by assumption) ?_; conv => whnf)
        | (refine bsF (by assumption) ?_; conv => whnf)
        | (refine dsp ?_ ?_ <;> intro _ <;> conv => whnf)
        | (refine nsp ?_ ?_ <;> intro _ <;> conv => whnf)
        | (refine cnd_true (by assumption) ?_; conv => whnf)
        | (refine cnd_false (by assumption) ?_; conv => whnf)
        | (refine cnd_split ?_ ?_ <;> intro _ <;> conv => whnf)
        | (refine Cd.par tabOk (by kernel_rfl) (by kernel_rfl) ?_; conv => whnf)
        | (refine Fc.use (hc) ?_ ?_; (focus ((repeat' constructor); done)); conv => whnf)
        | (refine CallQ.of (hc) ?_ ?_; (focus ((repeat' constructor); done)); conv => whnf))
      all_goals first | rfl | (repeat' constructor)
    · have h2 : 15 < mask := by omega
      refine Fc.of_body tabOk q_ouroborosref10_In (by kernel_rfl) (bb) ((blw_ents 0 _)) ?_
      conv => whnf
      repeat' (first
        | (refine bltG (by first | omega | (simp only [List.length_map] at *; omega)) ?_; conv => whnf)
        | (refine ndG (by assumption) ?_; conv => whnf)
        | (refine mulG ?_; conv => whnf)
        | (refine And.intro rfl ?_; conv => whnf)
        | (refine dsT (by assumption) ?_; conv => whnf)
        | (refine dsF (by assumption) ?_; conv => whnf)
        | (refine nsT (by assumption) ?_; conv => whnf)
        | (refine nsF (by assumption) ?_; conv => whnf)
        | (refine bsT (by assumption) ?_; conv => whnf)
        | (refine bsF (by assumption) ?_; conv => whnf)
        | (refine dsp ?_ ?_ <;> intro _ <;> conv => whnf)
        | (refine nsp ?_ ?_ <;> intro _ <;> conv => whnf)
        | (refine cnd_true (by assumption) ?_; conv => whnf)
        | (refine cnd_false (by assumption) ?_; conv => whnf)
        | (refine cnd_split ?_ ?_ <;> intro _ <;> conv => whnf)
        | (refine Cd.par tabOk (by kernel_rfl) (by kernel_rfl) ?_; conv => whnf)
        | (refine Fc.use (hc) ?_ ?_; (focus ((repeat' constructor); done)); conv => whnf)
        | (refine CallQ.of (hc) ?_ ?_; (focus ((repeat' constructor); done)); conv => whnf))
      all_goals first | rfl | (repeat' constructor)
  have hm1 : ¬ mask < 0 := by omega
  have hm2 : ¬ 15 < mask := by omega
  have hlen : a.slots.length ≤ 8 := ar_len hk
  have hN : (a.slots.map Ent.sv).length = a.slots.length := List.length_map ..
  have hmx : 4096 ≤ maxLen := by decide
  refine Fc.of_body tabOk q_ouroborosref10_In (by kernel_rfl) (bb) ((blw_ents 0 _)) ?_
  conv => whnf
  repeat' (first
    | (refine bltG (by first | omega | (simp only [List.length_map] at *; omega)) ?_; conv => whnf)
    | (refine ndG (by assumption) ?_; conv => whnf)
    | (refine mulG ?_; conv => whnf)
    | (refine And.intro rfl ?_; conv => whnf)
    | (refine dsT (by assumption) ?_; conv => whnf)
    | (refine dsF (by assumption) ?_; conv => whnf)
    | (refine nsT (by assumption) ?_; conv => whnf)
    | (refine nsF (by assumption) ?_; conv => whnf)
    | (refine bsT (by assumption) ?_; conv => whnf)
    | (refine bsF (by assumption) ?_; conv => whnf)
    | (refine dsp ?_ ?_ <;> intro _ <;> conv => whnf)
    | (refine nsp ?_ ?_ <;> intro _ <;> conv => whnf)
    | (refine cnd_true (by assumption) ?_; conv => whnf)
    | (refine cnd_false (by assumption) ?_; conv => whnf)
    | (refine cnd_split ?_ ?_ <;> intro _ <;> conv => whnf)
    | (refine Cd.par tabOk (by kernel_rfl) (by kernel_rfl) ?_; conv => whnf)
    | (refine Fc.use (hc) ?_ ?_; (focus ((repeat' constructor); done)); conv => whnf)
    | (refine CallQ.of (hc) ?_ ?_; (focus ((repeat' constructor); done)); conv => whnf))
  refine Cd.nilRow t_Entry 9 ?_
  conv => whnf
  refine loopP2 tabOk (fun (i : Nat) (q : Q3) => i ≤ a.slots.length ∧ q.n = (inS (a.slots.take i) mask most).length ∧ RowV q.A q.n q.c)
    (fun i q => ⟨[(8, iv i), (7, .own 0 q.A q.n q.c), (3, .loc 0 0), (1, iv mask), (2, iv most)], []⟩)
    (fun i q => ⟨1, [.c [iv a.cap, ents a.slots, ints a.index]], [⟨q.A, q.n, q.c, t_Entry, 9, (inS (a.slots.take i) mask most).map Ent.sv, false⟩]⟩)
    (fun i q => a.slots.length - i) 0 ⟨none, 0, 0⟩ ⟨Nat.zero_le _, by simp [inS], ⟨Nat.le_refl _, Nat.zero_le _, fun _ => ⟨rfl, rfl⟩, fun _ h => by cases h⟩⟩ (by simp only [inS, List.take_zero, List.foldl_nil, List.map_nil]; repeat' constructor) (fun _ _ => rfl) ?_
  rintro i ⟨A, m, c⟩ ⟨hi, hmm, hv⟩
  simp only at hmm hv
  by_cases hlt : i < a.slots.length
  · have hlt' : (i : Int) < ((a.slots.map Ent.sv).length : Int) := by rw [hN]; omega
    obtain ⟨x, hx⟩ : ∃ x, a.slots[i]? = some x := ⟨_, List.getElem?_eq_getElem (by omega)⟩
    have hxm : x ∈ a.slots := List.mem_of_getElem? hx
    have hok := hk.2.2.2.1 x hxm
    have hkd : 1 ≤ x.val.kind ∧ x.val.kind ≤ 3 := by rcases hok.2.2 with h | h | h <;> omega
    have hB := r_Bucket x.val.kind x.key (by have := hok.2.1; omega) (by omega)
    have hml : m ≤ 8 := by have := inS_le a.slots mask most i; omega
    have hS : inS (a.slots.take (i + 1)) mask most = if askd mask (bk x.val.kind x.key) ∧ ((inS (a.slots.take i) mask most).length : Int) < most then inS (a.slots.take i) mask most ++ [x] else inS (a.slots.take i) mask most := by
      rw [List.take_add_one, hx]; exact inS_snoc _ _ _ _
    rw [← hmm] at hS
    have hbd := bk_bd x.val.kind x.key
    have hbi := r_bits hbd
    have hak := askd_shl' hm hbd
    generalize bk x.val.kind x.key = b at *
    generalize (2 : Int) ^ b.toNat = pb at *
    by_cases hl : (m : Int) < most
    · by_cases hq : askd mask b
      · have hq' := hak.1 hq
        rw [if_pos ⟨hq, hl⟩] at hS
        conv => whnf
        repeat' (first
          | (refine bltG (by first | omega | (simp only [List.length_map] at *; omega)) ?_; conv => whnf)
          | (refine ndG (by assumption) ?_; conv => whnf)
          | (refine mulG ?_; conv => whnf)
          | (refine And.intro rfl ?_; conv => whnf)
          | (refine dsT (by assumption) ?_; conv => whnf)
          | (refine dsF (by assumption) ?_; conv => whnf)
          | (refine nsT (by assumption) ?_; conv => whnf)
          | (refine nsF (by assumption) ?_; conv => whnf)
          | (refine bsT (by assumption) ?_; conv => whnf)
          | (refine bsF (by assumption) ?_; conv => whnf)
          | (refine dsp ?_ ?_ <;> intro _ <;> conv => whnf)
          | (refine nsp ?_ ?_ <;> intro _ <;> conv => whnf)
          | (refine cnd_true (by assumption) ?_; conv => whnf)
          | (refine cnd_false (by assumption) ?_; conv => whnf)
          | (refine cnd_split ?_ ?_ <;> intro _ <;> conv => whnf)
          | (refine Cd.par tabOk (by kernel_rfl) (by kernel_rfl) ?_; conv => whnf)
          | (refine Fc.use (hB) ?_ ?_; (focus ((repeat' constructor); done)); conv => whnf)
          | (refine CallQ.of (hB) ?_ ?_; (focus ((repeat' constructor); done)); conv => whnf)
          | (refine Fc.use (hbi) ?_ ?_; (focus ((repeat' constructor); done)); conv => whnf)
          | (refine CallQ.of (hbi) ?_ ?_; (focus ((repeat' constructor); done)); conv => whnf)
          | rfl
          | exact True.intro
          | (refine And.intro ?_ ?_ <;> conv => whnf))
        · refine Nat.le_trans (?_ : _ ≤ 4096) hmx
          simp only [List.length_cons, List.length_nil]; omega
        · refine Nat.le_trans (Nat.mul_le_mul_right _ (?_ : _ ≤ 4096)) (by decide)
          simp only [List.length_cons, List.length_nil]; omega
        intro A' c' hv'
        refine lfI ?_
        conv => whnf
        repeat' (first
          | (refine bltG (by first | omega | (simp only [List.length_map] at *; omega)) ?_; conv => whnf)
          | (refine ndG (by assumption) ?_; conv => whnf)
          | (refine mulG ?_; conv => whnf)
          | (refine And.intro rfl ?_; conv => whnf)
          | (refine dsT (by assumption) ?_; conv => whnf)
          | (refine dsF (by assumption) ?_; conv => whnf)
          | (refine nsT (by assumption) ?_; conv => whnf)
          | (refine nsF (by assumption) ?_; conv => whnf)
          | (refine bsT (by assumption) ?_; conv => whnf)
          | (refine bsF (by assumption) ?_; conv => whnf)
          | (refine dsp ?_ ?_ <;> intro _ <;> conv => whnf)
          | (refine nsp ?_ ?_ <;> intro _ <;> conv => whnf)
          | (refine cnd_true (by assumption) ?_; conv => whnf)
          | (refine cnd_false (by assumption) ?_; conv => whnf)
          | (refine cnd_split ?_ ?_ <;> intro _ <;> conv => whnf)
          | (refine Cd.par tabOk (by kernel_rfl) (by kernel_rfl) ?_; conv => whnf)
          | rfl
          | exact True.intro
          | (refine And.intro ?_ ?_ <;> conv => whnf))
        refine ⟨i + 1, ⟨A', m + 1, c'⟩, ⟨by omega, by rw [hS, List.length_append, ← hmm]; rfl, hv'⟩, by omega, ⟨?_, rfl, ⟨?_, trivial⟩, by repeat' constructor, rfl, .inl rfl⟩⟩
        · (repeat' constructor) <;> (refine ivW ?_ ?_ ?_ <;> omega)
        · exact rowEq (by rw [hS, List.map_append]; rfl)
      · have hq' := fun h => hq (hak.2 h)
        rw [if_neg (fun h => hq h.1)] at hS
        conv => whnf
        repeat' (first
          | (refine bltG (by first | omega | (simp only [List.length_map] at *; omega)) ?_; conv => whnf)
          | (refine ndG (by assumption) ?_; conv => whnf)
          | (refine mulG ?_; conv => whnf)
          | (refine And.intro rfl ?_; conv => whnf)
          | (refine dsT (by assumption) ?_; conv => whnf)
          | (refine dsF (by assumption) ?_; conv => whnf)
          | (refine nsT (by assumption) ?_; conv => whnf)
          | (refine nsF (by assumption) ?_; conv => whnf)
          | (refine bsT (by assumption) ?_; conv => whnf)
          | (refine bsF (by assumption) ?_; conv => whnf)
          | (refine dsp ?_ ?_ <;> intro _ <;> conv => whnf)
          | (refine nsp ?_ ?_ <;> intro _ <;> conv => whnf)
          | (refine cnd_true (by assumption) ?_; conv => whnf)
          | (refine cnd_false (by assumption) ?_; conv => whnf)
          | (refine cnd_split ?_ ?_ <;> intro _ <;> conv => whnf)
          | (refine Cd.par tabOk (by kernel_rfl) (by kernel_rfl) ?_; conv => whnf)
          | (refine Fc.use (hB) ?_ ?_; (focus ((repeat' constructor); done)); conv => whnf)
          | (refine CallQ.of (hB) ?_ ?_; (focus ((repeat' constructor); done)); conv => whnf)
          | (refine Fc.use (hbi) ?_ ?_; (focus ((repeat' constructor); done)); conv => whnf)
          | (refine CallQ.of (hbi) ?_ ?_; (focus ((repeat' constructor); done)); conv => whnf)
          | rfl
          | exact True.intro
          | (refine And.intro ?_ ?_ <;> conv => whnf))
        refine ⟨i + 1, ⟨A, m, c⟩, ⟨by omega, by rw [hS, ← hmm], hv⟩, by omega, ⟨?_, rfl, ⟨?_, trivial⟩, by repeat' constructor, rfl, .inl rfl⟩⟩
        · (repeat' constructor) <;> (refine ivW ?_ ?_ ?_ <;> omega)
        · exact rowEq (by rw [hS])
    · have he : inS a.slots mask most = inS (a.slots.take i) mask most := by
        have := inS_stop (mask := mask) (most := most) (a.slots.drop i) (a.slots.take i) (by omega)
        rwa [List.take_append_drop] at this
      rw [he]
      conv => whnf
      repeat' (first
        | (refine bltG (by first | omega | (simp only [List.length_map] at *; omega)) ?_; conv => whnf)
        | (refine ndG (by assumption) ?_; conv => whnf)
        | (refine mulG ?_; conv => whnf)
        | (refine And.intro rfl ?_; conv => whnf)
        | (refine dsT (by assumption) ?_; conv => whnf)
        | (refine dsF (by assumption) ?_; conv => whnf)
        | (refine nsT (by assumption) ?_; conv => whnf)
        | (refine nsF (by assumption) ?_; conv => whnf)
        | (refine bsT (by assumption) ?_; conv => whnf)
        | (refine bsF (by assumption) ?_; conv => whnf)
        | (refine dsp ?_ ?_ <;> intro _ <;> conv => whnf)
        | (refine nsp ?_ ?_ <;> intro _ <;> conv => whnf)
        | (refine cnd_true (by assumption) ?_; conv => whnf)
        | (refine cnd_false (by assumption) ?_; conv => whnf)
        | (refine cnd_split ?_ ?_ <;> intro _ <;> conv => whnf)
        | (refine Cd.par tabOk (by kernel_rfl) (by kernel_rfl) ?_; conv => whnf))
      repeat' constructor
  · obtain rfl : i = a.slots.length := by omega
    have hlt' : ¬ ((a.slots.length : Nat) : Int) < ((a.slots.map Ent.sv).length : Int) := by rw [hN]; omega
    simp only [List.take_length] at hmm
    conv => whnf
    repeat' (first
      | (refine bltG (by first | omega | (simp only [List.length_map] at *; omega)) ?_; conv => whnf)
      | (refine ndG (by assumption) ?_; conv => whnf)
      | (refine mulG ?_; conv => whnf)
      | (refine And.intro rfl ?_; conv => whnf)
      | (refine dsT (by assumption) ?_; conv => whnf)
      | (refine dsF (by assumption) ?_; conv => whnf)
      | (refine nsT (by assumption) ?_; conv => whnf)
      | (refine nsF (by assumption) ?_; conv => whnf)
      | (refine bsT (by assumption) ?_; conv => whnf)
      | (refine bsF (by assumption) ?_; conv => whnf)
      | (refine dsp ?_ ?_ <;> intro _ <;> conv => whnf)
      | (refine nsp ?_ ?_ <;> intro _ <;> conv => whnf)
      | (refine cnd_true (by assumption) ?_; conv => whnf)
      | (refine cnd_false (by assumption) ?_; conv => whnf)
      | (refine cnd_split ?_ ?_ <;> intro _ <;> conv => whnf)
      | (refine Cd.par tabOk (by kernel_rfl) (by kernel_rfl) ?_; conv => whnf))
    simp only [List.take_length]
    repeat' constructor
end Go.Proofs.YtmjpidjdbofdjaaGreat

