import Derived.Test.YtmjpidjdbofdjaaGreatXv
/- The law ProbeThree. -/
set_option linter.unusedVariables false
set_option linter.unusedSimpArgs false
set_option maxRecDepth 100000
set_option maxHeartbeats 1600000
namespace Go.Proofs.YtmjpidjdbofdjaaGreat
open Go Go.Sy
theorem shr_asked0 : ∀ (n : Fin 16) (m : Fin 4), ¬ (((n.1 : Nat) : Int).fdiv (2 ^ min ((((m.1 : Nat) : Int)).toNat % ((2 : Int) ^ IntKind.u64.bits).natAbs) IntKind.i64.bits)).tmod 2 = 0 → askd ((n.1 : Nat) : Int) ((m.1 : Nat) : Int) := by
  decide +kernel
theorem shr_asked {M z : Int} (hM : 1 ≤ M ∧ M ≤ 15) (hz : 0 ≤ z ∧ z < 4) (h : ¬ (M.fdiv (2 ^ min (z.toNat % ((2 : Int) ^ IntKind.u64.bits).natAbs) IntKind.i64.bits)).tmod 2 = 0) : askd M z := by
  obtain ⟨n, rfl⟩ : ∃ n : Nat, M = n := ⟨M.toNat, by omega⟩
  obtain ⟨m, rfl⟩ : ∃ m : Nat, z = m := ⟨z.toNat, by omega⟩
  exact shr_asked0 ⟨n, by omega⟩ ⟨m, by omega⟩ h
/-- What is known of a slot of both. -/
structure Slot3 (M : Int) (C D : Ar) (s : Ent) : Prop where
  ok : entOk s
  fw : s.fw
  at3 : inM M s = true → ∃ p q : Nat, findZ C.slots s.val.kind s.key = p ∧ C.slots[p]? = some s ∧ findZ D.slots s.val.kind s.key = q ∧ D.slots[q]? = some s
theorem three_main (a b J K C D : Ar) (M kk : Int) (wl gl : List Ent) (gb : Bool) (u1 u2 u3 u4 : Nat) (FAa : Fra)
    (fa : Fc Tryz.prog n_ouroboroslaw08_Few [a.sv] (sb true)) (fb : Fc Tryz.prog n_ouroboroslaw08_Few [b.sv] (sb true))
    (ca : Fc Tryz.prog n_arena_Check [a.sv] (iv 0)) (cb : Fc Tryz.prog n_arena_Check [b.sv] (iv 0))
    (m1 : Fc Tryz.prog n_arena_Merge [a.sv, ents b.slots] (.tup [J.sv, iv u1, iv 0])) (m2 : Fc Tryz.prog n_arena_Merge [b.sv, ents a.slots] (.tup [K.sv, iv u2, iv 0]))
    (ka : Fc Tryz.prog n_probe_Ask [a.sv] FAa.sv)
    (kw : Fc Tryz.prog n_probe_Want [b.sv, FAa.sv, iv 8] (.tup [Fra.sv ⟨4, M, 0, 0, 0, 0, 0, wl⟩, sb true]))
    (kg : Fc Tryz.prog n_probe_Give [a.sv, Fra.sv ⟨4, M, 0, 0, 0, 0, 0, wl⟩, iv 8] (.tup [Fra.sv ⟨kk, 0, 0, 0, 0, 0, 0, gl⟩, sb gb]))
    (m3 : Fc Tryz.prog n_arena_Merge [a.sv, ents wl] (.tup [C.sv, iv u3, iv 0])) (m4 : Fc Tryz.prog n_arena_Merge [b.sv, ents gl] (.tup [D.sv, iv u4, iv 0]))
    (b1 : Fc Tryz.prog n_arena_Below [C.sv, J.sv] (sb true)) (b2 : Fc Tryz.prog n_arena_Below [D.sv, K.sv] (sb true))
    (hg : gb = false → gl = []) (hM : 1 ≤ M ∧ M ≤ 15)
    (fC : ∀ k s, Fc Tryz.prog n_arena_Find [C.sv, iv k, ss s] (iv (findZ C.slots k s))) (fD : ∀ k s, Fc Tryz.prog n_arena_Find [D.sv, iv k, ss s] (iv (findZ D.slots k s)))
    (hs : ∀ s ∈ J.slots, Slot3 M C D s) (hJ : J.slots.length ≤ 8) : Fc Tryz.prog n_ouroboroslaw18_ProbeThree [a.sv, b.sv] (sb true) := by
  have bb : blwL 0 [a.sv, b.sv] = true := blwL_cons (blw_ar 0 a) (blwL_one (blw_ar 0 b))
  have hN : (J.slots.map Ent.sv).length = J.slots.length := List.length_map ..
  have hg' : gb = false → ¬ (0 : Int) < ((gl.map Ent.sv).length : Int) := fun h => by rw [hg h]; simp
  cases gb
  · have hg0 := hg' rfl
    refine Fc.of_body tabOk q_ouroboroslaw18_ProbeThree (by kernel_rfl) (bb) (rfl) ?_
    conv => whnf
    repeat' (first
      | (refine Cd.parT tabOk (by kernel_rfl) [7, 8] rfl ?_; conv => whnf)
      | (refine bltG (by first | omega | (simp only [List.length_map] at *; omega)) ?_; conv => whnf)
      | (refine ndG (by assumption) ?_; conv => whnf)
      | (refine mulG ?_; conv => whnf)
      | (refine And.intro rfl ?_; conv => whnf)
      | (refine dsT (by assumption) ?_; conv => whnf)
      | (refine dsF (by assumption) ?_; conv => whnf)
      | (refine nsT (by assumption) ?_; conv => whnf)
      | (refine nsF (by assumption) ?_; conv => whnf)
      | (refine bsT (by assumption) ?_; conv => whnf)
      | (refine bsF (by assumption) ?_; conv => whnf)
      | (refine dsp ?_ ?_ <;> intro _ <;> conv => whnf)
      | (refine nsp ?_ ?_ <;> intro _ <;> conv => whnf)
      | (refine cnd_true (by assumption) ?_; conv => whnf)
      | (refine cnd_false (by assumption) ?_; conv => whnf)
      | (refine cnd_split ?_ ?_ <;> intro _ <;> conv => whnf)
      | (refine Cd.par tabOk (by kernel_rfl) (by kernel_rfl) ?_; conv => whnf)
      | (refine Fc.use (c_works) ?_ ?_; (focus ((repeat' constructor); done)); conv => whnf)
      | (refine CallQ.of (c_works) ?_ ?_; (focus ((repeat' constructor); done)); conv => whnf)
      | (refine Fc.use (fa) ?_ ?_; (focus ((repeat' constructor); done)); conv => whnf)
      | (refine CallQ.of (fa) ?_ ?_; (focus ((repeat' constructor); done)); conv => whnf)
      | (refine Fc.use (fb) ?_ ?_; (focus ((repeat' constructor); done)); conv => whnf)
      | (refine CallQ.of (fb) ?_ ?_; (focus ((repeat' constructor); done)); conv => whnf)
      | (refine Fc.use (ca) ?_ ?_; (focus ((repeat' constructor); done)); conv => whnf)
      | (refine CallQ.of (ca) ?_ ?_; (focus ((repeat' constructor); done)); conv => whnf)
      | (refine Fc.use (cb) ?_ ?_; (focus ((repeat' constructor); done)); conv => whnf)
      | (refine CallQ.of (cb) ?_ ?_; (focus ((repeat' constructor); done)); conv => whnf)
      | (refine Fc.use (m1) ?_ ?_; (focus ((repeat' constructor); done)); conv => whnf)
      | (refine CallQ.of (m1) ?_ ?_; (focus ((repeat' constructor); done)); conv => whnf)
      | (refine Fc.use (m2) ?_ ?_; (focus ((repeat' constructor); done)); conv => whnf)
      | (refine CallQ.of (m2) ?_ ?_; (focus ((repeat' constructor); done)); conv => whnf)
      | (refine Fc.use (ka) ?_ ?_; (focus ((repeat' constructor); done)); conv => whnf)
      | (refine CallQ.of (ka) ?_ ?_; (focus ((repeat' constructor); done)); conv => whnf)
      | (refine Fc.use (kw) ?_ ?_; (focus ((repeat' constructor); done)); conv => whnf)
      | (refine CallQ.of (kw) ?_ ?_; (focus ((repeat' constructor); done)); conv => whnf)
      | (refine Fc.use (kg) ?_ ?_; (focus ((repeat' constructor); done)); conv => whnf)
      | (refine CallQ.of (kg) ?_ ?_; (focus ((repeat' constructor); done)); conv => whnf)
      | (refine Fc.use (m3) ?_ ?_; (focus ((repeat' constructor); done)); conv => whnf)
      | (refine CallQ.of (m3) ?_ ?_; (focus ((repeat' constructor); done)); conv => whnf)
      | (refine Fc.use (m4) ?_ ?_; (focus ((repeat' constructor); done)); conv => whnf)
      | (refine CallQ.of (m4) ?_ ?_; (focus ((repeat' constructor); done)); conv => whnf)
      | (refine Fc.use (b1) ?_ ?_; (focus ((repeat' constructor); done)); conv => whnf)
      | (refine CallQ.of (b1) ?_ ?_; (focus ((repeat' constructor); done)); conv => whnf)
      | (refine Fc.use (b2) ?_ ?_; (focus ((repeat' constructor); done)); conv => whnf)
      | (refine CallQ.of (b2) ?_ ?_; (focus ((repeat' constructor); done)); conv => whnf)
      | rfl
      | exact True.intro
      | (refine And.intro ?_ ?_ <;> conv => whnf))
    refine loopP tabOk (fun i : Nat => i ≤ J.slots.length)
      (fun i => ⟨[(23, iv i), (20, .loc 7 0), (17, .loc 6 0), (13, .loc 4 0), (7, .loc 2 0), (5, sb true)], []⟩)
      (fun i => ⟨8, [.c [iv a.cap, ents a.slots, ints a.index], .c [iv b.cap, ents b.slots, ints b.index], .c [iv J.cap, ents J.slots, ints J.index], .c [iv K.cap, ents K.slots, ints K.index], .c [iv 4, iv M, iv 0, iv 0, iv 0, iv 0, iv 0, ents wl], .c [iv kk, iv 0, iv 0, iv 0, iv 0, iv 0, iv 0, ents gl], .c [iv C.cap, ents C.slots, ints C.index], .c [iv D.cap, ents D.slots, ints D.index]], []⟩)
      (fun i => J.slots.length - i) 0 (Nat.zero_le _) (by repeat' constructor) (fun _ => rfl) ?_
    intro i hi
    conv => whnf
    refine dsp ?_ ?_ <;> intro hlt <;> conv => whnf
    · rw [hN] at hlt
      obtain ⟨s, hsi⟩ : ∃ s, J.slots[i]? = some s := ⟨_, List.getElem?_eq_getElem (by omega)⟩
      obtain ⟨ok, fw, at3⟩ := hs s (List.mem_of_getElem? hsi)
      have kb := c_digest_Bucket s.val.kind s.key (by have := ok.2.1; omega)
      have hz := bk_bd s.val.kind s.key
      have hin : inM M s = decide (askd M (bk s.val.kind s.key)) := rfl
      generalize bk s.val.kind s.key = z at *
      have hz0 : ¬ z < 0 := by omega
      have hz3 : ¬ 3 < z := by omega
      by_cases ht : (M.fdiv (2 ^ min (z.toNat % ((2 : Int) ^ IntKind.u64.bits).natAbs) IntKind.i64.bits)).tmod 2 = 0
      · clear hin at3
        rcases four hz with rfl | rfl | rfl | rfl
        all_goals
          repeat' (first
            | (refine bltG (by first | omega | (simp only [List.length_map] at *; omega)) ?_; conv => whnf)
            | (refine ndG (by assumption) ?_; conv => whnf)
            | (refine mulG ?_; conv => whnf)
            | (refine And.intro rfl ?_; conv => whnf)
            | (refine dsT (by assumption) ?_; conv => whnf)
            | (refine dsF (by assumption) ?_; conv => whnf)
            | (refine nsT (by assumption) ?_; conv => whnf)
            | (refine nsF (by assumption) ?_; conv => whnf)
            | (refine bsT (by assumption) ?_; conv => whnf)
            | (refine bsF (by assumption) ?_; conv => whnf)
            | (refine dsp ?_ ?_ <;> intro _ <;> conv => whnf)
            | (refine nsp ?_ ?_ <;> intro _ <;> conv => whnf)
            | (refine cnd_true (by assumption) ?_; conv => whnf)
            | (refine cnd_false (by assumption) ?_; conv => whnf)
            | (refine cnd_split ?_ ?_ <;> intro _ <;> conv => whnf)
            | (refine Cd.par tabOk (by kernel_rfl) (by kernel_rfl) ?_; conv => whnf)
            | (refine Fc.use (kb) ?_ ?_; (focus ((repeat' constructor); done)); conv => whnf)
            | (refine CallQ.of (kb) ?_ ?_; (focus ((repeat' constructor); done)); conv => whnf)
            | rfl
            | exact True.intro
            | (refine And.intro ?_ ?_ <;> conv => whnf))
          refine ⟨i + 1, (by omega), ?_, ⟨?_, rfl, ?_, ?_, rfl, ?_⟩⟩
          · first | omega | (simp only [List.length_map] at *; omega)
          · (repeat' constructor) <;> first | (refine ivW ?_ ?_ ?_ <;> first | omega | (dsimp only; omega))
          · (repeat' (first | constructor))
          · repeat' constructor
          · first | exact .inl rfl | exact .inr ⟨by simp [blwE, blw, blwL, blwB, blwX, blwR, blw_iv, blw_ints, blw_ents, blw_ent, blw_val, blw_ar, blwL_map (blw_ent _), blwL_map (blw_iv _), sb, ss] <;> rfl, rfl, by simp [blwE, blw, blwL, blwB, blwX, blwR, blw_iv, blw_ints, blw_ents, blw_ent, blw_val, blw_ar, blwL_map (blw_ent _), blwL_map (blw_iv _), sb, ss] <;> rfl, by simp [blwE, blw, blwL, blwB, blwX, blwR, blw_iv, blw_ints, blw_ents, blw_ent, blw_val, blw_ar, blwL_map (blw_ent _), blwL_map (blw_iv _), sb, ss]⟩
      · obtain ⟨p, q, hp1, hp2, hq1, hq2⟩ := at3 (hin.trans (decide_eq_true (shr_asked hM hz ht)))
        have hfC := fC s.val.kind s.key
        have hfD := fD s.val.kind s.key
        rw [hp1] at hfC
        rw [hq1] at hfD
        have hp0 : ¬ ((p : Nat) : Int) < 0 := by omega
        have hq0 : ¬ ((q : Nat) : Int) < 0 := by omega
        have hp3 : p < C.slots.length := (List.getElem?_eq_some_iff.1 hp2).1
        have hq3 : q < D.slots.length := (List.getElem?_eq_some_iff.1 hq2).1
        have hone := c_one s
        have hbe := c_Below (oneA s) (oneA s) (one_bd ok) (one_bd ok)
        rw [decide_eq_true (one_below ok fw)] at hbe
        generalize oneA s = os at hone hbe
        clear hin at3 hp1 hq1
        rcases four hz with rfl | rfl | rfl | rfl
        all_goals
          repeat' (first
            | (refine bltG (by first | omega | (simp only [List.length_map] at *; omega)) ?_; conv => whnf)
            | (refine ndG (by assumption) ?_; conv => whnf)
            | (refine mulG ?_; conv => whnf)
            | (refine And.intro rfl ?_; conv => whnf)
            | (refine dsT (by assumption) ?_; conv => whnf)
            | (refine dsF (by assumption) ?_; conv => whnf)
            | (refine nsT (by assumption) ?_; conv => whnf)
            | (refine nsF (by assumption) ?_; conv => whnf)
            | (refine bsT (by assumption) ?_; conv => whnf)
            | (refine bsF (by assumption) ?_; conv => whnf)
            | (refine dsp ?_ ?_ <;> intro _ <;> conv => whnf)
            | (refine nsp ?_ ?_ <;> intro _ <;> conv => whnf)
            | (refine cnd_true (by assumption) ?_; conv => whnf)
            | (refine cnd_false (by assumption) ?_; conv => whnf)
            | (refine cnd_split ?_ ?_ <;> intro _ <;> conv => whnf)
            | (refine Cd.par tabOk (by kernel_rfl) (by kernel_rfl) ?_; conv => whnf)
            | (refine Fc.use (kb) ?_ ?_; (focus ((repeat' constructor); done)); conv => whnf)
            | (refine CallQ.of (kb) ?_ ?_; (focus ((repeat' constructor); done)); conv => whnf)
            | (refine Fc.use (hfC) ?_ ?_; (focus ((repeat' constructor); done)); conv => whnf)
            | (refine CallQ.of (hfC) ?_ ?_; (focus ((repeat' constructor); done)); conv => whnf)
            | (refine Fc.use (hfD) ?_ ?_; (focus ((repeat' constructor); done)); conv => whnf)
            | (refine CallQ.of (hfD) ?_ ?_; (focus ((repeat' constructor); done)); conv => whnf)
            | (refine Fc.use (hone) ?_ ?_; (focus ((repeat' constructor); done)); conv => whnf)
            | (refine CallQ.of (hone) ?_ ?_; (focus ((repeat' constructor); done)); conv => whnf)
            | (refine Fc.use (hbe) ?_ ?_; (focus ((repeat' constructor); done)); conv => whnf)
            | (refine CallQ.of (hbe) ?_ ?_; (focus ((repeat' constructor); done)); conv => whnf)
            | rfl
            | exact True.intro
            | (refine And.intro ?_ ?_ <;> conv => whnf))
          refine ⟨i + 1, (by omega), ?_, ⟨?_, rfl, ?_, ?_, rfl, ?_⟩⟩
          · first | omega | (simp only [List.length_map] at *; omega)
          · (repeat' constructor) <;> first | (refine ivW ?_ ?_ ?_ <;> first | omega | (dsimp only; omega))
          · (repeat' (first | constructor))
          · repeat' constructor
          · first | exact .inl rfl | exact .inr ⟨by simp [blwE, blw, blwL, blwB, blwX, blwR, blw_iv, blw_ints, blw_ents, blw_ent, blw_val, blw_ar, blwL_map (blw_ent _), blwL_map (blw_iv _), sb, ss] <;> rfl, rfl, by simp [blwE, blw, blwL, blwB, blwX, blwR, blw_iv, blw_ints, blw_ents, blw_ent, blw_val, blw_ar, blwL_map (blw_ent _), blwL_map (blw_iv _), sb, ss] <;> rfl, by simp [blwE, blw, blwL, blwB, blwX, blwR, blw_iv, blw_ints, blw_ents, blw_ent, blw_val, blw_ar, blwL_map (blw_ent _), blwL_map (blw_iv _), sb, ss]⟩
    · repeat' (first
        | (refine bltG (by first | omega | (simp only [List.length_map] at *; omega)) ?_; conv => whnf)
        | (refine ndG (by assumption) ?_; conv => whnf)
        | (refine mulG ?_; conv => whnf)
        | (refine And.intro rfl ?_; conv => whnf)
        | (refine dsT (by assumption) ?_; conv => whnf)
        | (refine dsF (by assumption) ?_; conv => whnf)
        | (refine nsT (by assumption) ?_; conv => whnf)
        | (refine nsF (by assumption) ?_; conv => whnf)
        | (refine bsT (by assumption) ?_; conv => whnf)
        | (refine bsF (by assumption) ?_; conv => whnf)
        | (refine dsp ?_ ?_ <;> intro _ <;> conv => whnf)
        | (refine nsp ?_ ?_ <;> intro _ <;> conv => whnf)
        | (refine cnd_true (by assumption) ?_; conv => whnf)
        | (refine cnd_false (by assumption) ?_; conv => whnf)
        | (refine cnd_split ?_ ?_ <;> intro _ <;> conv => whnf)
        | (refine Cd.par tabOk (by kernel_rfl) (by kernel_rfl) ?_; conv => whnf)
        | rfl
        | exact True.intro
        | (refine And.intro ?_ ?_ <;> conv => whnf))
  · clear hg hg'
    refine Fc.of_body tabOk q_ouroboroslaw18_ProbeThree (by kernel_rfl) (bb) (rfl) ?_
    conv => whnf
    repeat' (first
      | (refine Cd.parT tabOk (by kernel_rfl) [7, 8] rfl ?_; conv => whnf)
      | (refine bltG (by first | omega | (simp only [List.length_map] at *; omega)) ?_; conv => whnf)
      | (refine ndG (by assumption) ?_; conv => whnf)
      | (refine mulG ?_; conv => whnf)
      | (refine And.intro rfl ?_; conv => whnf)
      | (refine dsT (by assumption) ?_; conv => whnf)
      | (refine dsF (by assumption) ?_; conv => whnf)
      | (refine nsT (by assumption) ?_; conv => whnf)
      | (refine nsF (by assumption) ?_; conv => whnf)
      | (refine bsT (by assumption) ?_; conv => whnf)
      | (refine bsF (by assumption) ?_; conv => whnf)
      | (refine dsp ?_ ?_ <;> intro _ <;> conv => whnf)
      | (refine nsp ?_ ?_ <;> intro _ <;> conv => whnf)
      | (refine cnd_true (by assumption) ?_; conv => whnf)
      | (refine cnd_false (by assumption) ?_; conv => whnf)
      | (refine cnd_split ?_ ?_ <;> intro _ <;> conv => whnf)
      | (refine Cd.par tabOk (by kernel_rfl) (by kernel_rfl) ?_; conv => whnf)
      | (refine Fc.use (c_works) ?_ ?_; (focus ((repeat' constructor); done)); conv => whnf)
      | (refine CallQ.of (c_works) ?_ ?_; (focus ((repeat' constructor); done)); conv => whnf)
      | (refine Fc.use (fa) ?_ ?_; (focus ((repeat' constructor); done)); conv => whnf)
      | (refine CallQ.of (fa) ?_ ?_; (focus ((repeat' constructor); done)); conv => whnf)
      | (refine Fc.use (fb) ?_ ?_; (focus ((repeat' constructor); done)); conv => whnf)
      | (refine CallQ.of (fb) ?_ ?_; (focus ((repeat' constructor); done)); conv => whnf)
      | (refine Fc.use (ca) ?_ ?_; (focus ((repeat' constructor); done)); conv => whnf)
      | (refine CallQ.of (ca) ?_ ?_; (focus ((repeat' constructor); done)); conv => whnf)
      | (refine Fc.use (cb) ?_ ?_; (focus ((repeat' constructor); done)); conv => whnf)
      | (refine CallQ.of (cb) ?_ ?_; (focus ((repeat' constructor); done)); conv => whnf)
      | (refine Fc.use (m1) ?_ ?_; (focus ((repeat' constructor); done)); conv => whnf)
      | (refine CallQ.of (m1) ?_ ?_; (focus ((repeat' constructor); done)); conv => whnf)
      | (refine Fc.use (m2) ?_ ?_; (focus ((repeat' constructor); done)); conv => whnf)
      | (refine CallQ.of (m2) ?_ ?_; (focus ((repeat' constructor); done)); conv => whnf)
      | (refine Fc.use (ka) ?_ ?_; (focus ((repeat' constructor); done)); conv => whnf)
      | (refine CallQ.of (ka) ?_ ?_; (focus ((repeat' constructor); done)); conv => whnf)
      | (refine Fc.use (kw) ?_ ?_; (focus ((repeat' constructor); done)); conv => whnf)
      | (refine CallQ.of (kw) ?_ ?_; (focus ((repeat' constructor); done)); conv => whnf)
      | (refine Fc.use (kg) ?_ ?_; (focus ((repeat' constructor); done)); conv => whnf)
      | (refine CallQ.of (kg) ?_ ?_; (focus ((repeat' constructor); done)); conv => whnf)
      | (refine Fc.use (m3) ?_ ?_; (focus ((repeat' constructor); done)); conv => whnf)
      | (refine CallQ.of (m3) ?_ ?_; (focus ((repeat' constructor); done)); conv => whnf)
      | (refine Fc.use (m4) ?_ ?_; (focus ((repeat' constructor); done)); conv => whnf)
      | (refine CallQ.of (m4) ?_ ?_; (focus ((repeat' constructor); done)); conv => whnf)
      | (refine Fc.use (b1) ?_ ?_; (focus ((repeat' constructor); done)); conv => whnf)
      | (refine CallQ.of (b1) ?_ ?_; (focus ((repeat' constructor); done)); conv => whnf)
      | (refine Fc.use (b2) ?_ ?_; (focus ((repeat' constructor); done)); conv => whnf)
      | (refine CallQ.of (b2) ?_ ?_; (focus ((repeat' constructor); done)); conv => whnf)
      | rfl
      | exact True.intro
      | (refine And.intro ?_ ?_ <;> conv => whnf))
    refine loopP tabOk (fun i : Nat => i ≤ J.slots.length)
      (fun i => ⟨[(23, iv i), (20, .loc 7 0), (17, .loc 6 0), (13, .loc 4 0), (7, .loc 2 0), (5, sb true)], []⟩)
      (fun i => ⟨8, [.c [iv a.cap, ents a.slots, ints a.index], .c [iv b.cap, ents b.slots, ints b.index], .c [iv J.cap, ents J.slots, ints J.index], .c [iv K.cap, ents K.slots, ints K.index], .c [iv 4, iv M, iv 0, iv 0, iv 0, iv 0, iv 0, ents wl], .c [iv kk, iv 0, iv 0, iv 0, iv 0, iv 0, iv 0, ents gl], .c [iv C.cap, ents C.slots, ints C.index], .c [iv D.cap, ents D.slots, ints D.index]], []⟩)
      (fun i => J.slots.length - i) 0 (Nat.zero_le _) (by repeat' constructor) (fun _ => rfl) ?_
    intro i hi
    conv => whnf
    refine dsp ?_ ?_ <;> intro hlt <;> conv => whnf
    · rw [hN] at hlt
      obtain ⟨s, hsi⟩ : ∃ s, J.slots[i]? = some s := ⟨_, List.getElem?_eq_getElem (by omega)⟩
      obtain ⟨ok, fw, at3⟩ := hs s (List.mem_of_getElem? hsi)
      have kb := c_digest_Bucket s.val.kind s.key (by have := ok.2.1; omega)
      have hz := bk_bd s.val.kind s.key
      have hin : inM M s = decide (askd M (bk s.val.kind s.key)) := rfl
      generalize bk s.val.kind s.key = z at *
      have hz0 : ¬ z < 0 := by omega
      have hz3 : ¬ 3 < z := by omega
      by_cases ht : (M.fdiv (2 ^ min (z.toNat % ((2 : Int) ^ IntKind.u64.bits).natAbs) IntKind.i64.bits)).tmod 2 = 0
      · clear hin at3
        rcases four hz with rfl | rfl | rfl | rfl
        all_goals
          repeat' (first
            | (refine bltG (by first | omega | (simp only [List.length_map] at *; omega)) ?_; conv => whnf)
            | (refine ndG (by assumption) ?_; conv => whnf)
            | (refine mulG ?_; conv => whnf)
            | (refine And.intro rfl ?_; conv => whnf)
            | (refine dsT (by assumption) ?_; conv => whnf)
            | (refine dsF (by assumption) ?_; conv => whnf)
            | (refine nsT (by assumption) ?_; conv => whnf)
            | (refine nsF (by assumption) ?_; conv => whnf)
            | (refine bsT (by assumption) ?_; conv => whnf)
            | (refine bsF (by assumption) ?_; conv => whnf)
            | (refine dsp ?_ ?_ <;> intro _ <;> conv => whnf)
            | (refine nsp ?_ ?_ <;> intro _ <;> conv => whnf)
            | (refine cnd_true (by assumption) ?_; conv => whnf)
            | (refine cnd_false (by assumption) ?_; conv => whnf)
            | (refine cnd_split ?_ ?_ <;> intro _ <;> conv => whnf)
            | (refine Cd.par tabOk (by kernel_rfl) (by kernel_rfl) ?_; conv => whnf)
            | (refine Fc.use (kb) ?_ ?_; (focus ((repeat' constructor); done)); conv => whnf)
            | (refine CallQ.of (kb) ?_ ?_; (focus ((repeat' constructor); done)); conv => whnf)
            | rfl
            | exact True.intro
            | (refine And.intro ?_ ?_ <;> conv => whnf))
          refine ⟨i + 1, (by omega), ?_, ⟨?_, rfl, ?_, ?_, rfl, ?_⟩⟩
          · first | omega | (simp only [List.length_map] at *; omega)
          · (repeat' constructor) <;> first | (refine ivW ?_ ?_ ?_ <;> first | omega | (dsimp only; omega))
          · (repeat' (first | constructor))
          · repeat' constructor
          · first | exact .inl rfl | exact .inr ⟨by simp [blwE, blw, blwL, blwB, blwX, blwR, blw_iv, blw_ints, blw_ents, blw_ent, blw_val, blw_ar, blwL_map (blw_ent _), blwL_map (blw_iv _), sb, ss] <;> rfl, rfl, by simp [blwE, blw, blwL, blwB, blwX, blwR, blw_iv, blw_ints, blw_ents, blw_ent, blw_val, blw_ar, blwL_map (blw_ent _), blwL_map (blw_iv _), sb, ss] <;> rfl, by simp [blwE, blw, blwL, blwB, blwX, blwR, blw_iv, blw_ints, blw_ents, blw_ent, blw_val, blw_ar, blwL_map (blw_ent _), blwL_map (blw_iv _), sb, ss]⟩
      · obtain ⟨p, q, hp1, hp2, hq1, hq2⟩ := at3 (hin.trans (decide_eq_true (shr_asked hM hz ht)))
        have hfC := fC s.val.kind s.key
        have hfD := fD s.val.kind s.key
        rw [hp1] at hfC
        rw [hq1] at hfD
        have hp0 : ¬ ((p : Nat) : Int) < 0 := by omega
        have hq0 : ¬ ((q : Nat) : Int) < 0 := by omega
        have hp3 : p < C.slots.length := (List.getElem?_eq_some_iff.1 hp2).1
        have hq3 : q < D.slots.length := (List.getElem?_eq_some_iff.1 hq2).1
        have hone := c_one s
        have hbe := c_Below (oneA s) (oneA s) (one_bd ok) (one_bd ok)
        rw [decide_eq_true (one_below ok fw)] at hbe
        generalize oneA s = os at hone hbe
        clear hin at3 hp1 hq1
        rcases four hz with rfl | rfl | rfl | rfl
        all_goals
          repeat' (first
            | (refine bltG (by first | omega | (simp only [List.length_map] at *; omega)) ?_; conv => whnf)
            | (refine ndG (by assumption) ?_; conv => whnf)
            | (refine mulG ?_; conv => whnf)
            | (refine And.intro rfl ?_; conv => whnf)
            | (refine dsT (by assumption) ?_; conv => whnf)
            | (refine dsF (by assumption) ?_; conv => whnf)
            | (refine nsT (by assumption) ?_; conv => whnf)
            | (refine nsF (by assumption) ?_; conv => whnf)
            | (refine bsT (by assumption) ?_; conv => whnf)
            | (refine bsF (by assumption) ?_; conv => whnf)
            | (refine dsp ?_ ?_ <;> intro _ <;> conv => whnf)
            | (refine nsp ?_ ?_ <;> intro _ <;> conv => whnf)
            | (refine cnd_true (by assumption) ?_; conv => whnf)
            | (refine cnd_false (by assumption) ?_; conv => whnf)
            | (refine cnd_split ?_ ?_ <;> intro _ <;> conv => whnf)
            | (refine Cd.par tabOk (by kernel_rfl) (by kernel_rfl) ?_; conv => whnf)
            | (refine Fc.use (kb) ?_ ?_; (focus ((repeat' constructor); done)); conv => whnf)
            | (refine CallQ.of (kb) ?_ ?_; (focus ((repeat' constructor); done)); conv => whnf)
            | (refine Fc.use (hfC) ?_ ?_; (focus ((repeat' constructor); done)); conv => whnf)
            | (refine CallQ.of (hfC) ?_ ?_; (focus ((repeat' constructor); done)); conv => whnf)
            | (refine Fc.use (hfD) ?_ ?_; (focus ((repeat' constructor); done)); conv => whnf)
            | (refine CallQ.of (hfD) ?_ ?_; (focus ((repeat' constructor); done)); conv => whnf)
            | (refine Fc.use (hone) ?_ ?_; (focus ((repeat' constructor); done)); conv => whnf)
            | (refine CallQ.of (hone) ?_ ?_; (focus ((repeat' constructor); done)); conv => whnf)
            | (refine Fc.use (hbe) ?_ ?_; (focus ((repeat' constructor); done)); conv => whnf)
            | (refine CallQ.of (hbe) ?_ ?_; (focus ((repeat' constructor); done)); conv => whnf)
            | rfl
            | exact True.intro
            | (refine And.intro ?_ ?_ <;> conv => whnf))
          refine ⟨i + 1, (by omega), ?_, ⟨?_, rfl, ?_, ?_, rfl, ?_⟩⟩
          · first | omega | (simp only [List.length_map] at *; omega)
          · (repeat' constructor) <;> first | (refine ivW ?_ ?_ ?_ <;> first | omega | (dsimp only; omega))
          · (repeat' (first | constructor))
          · repeat' constructor
          · first | exact .inl rfl | exact .inr ⟨by simp [blwE, blw, blwL, blwB, blwX, blwR, blw_iv, blw_ints, blw_ents, blw_ent, blw_val, blw_ar, blwL_map (blw_ent _), blwL_map (blw_iv _), sb, ss] <;> rfl, rfl, by simp [blwE, blw, blwL, blwB, blwX, blwR, blw_iv, blw_ints, blw_ents, blw_ent, blw_val, blw_ar, blwL_map (blw_ent _), blwL_map (blw_iv _), sb, ss] <;> rfl, by simp [blwE, blw, blwL, blwB, blwX, blwR, blw_iv, blw_ints, blw_ents, blw_ent, blw_val, blw_ar, blwL_map (blw_ent _), blwL_map (blw_iv _), sb, ss]⟩
    · repeat' (first
        | (refine bltG (by first | omega | (simp only [List.length_map] at *; omega)) ?_; conv => whnf)
        | (refine ndG (by assumption) ?_; conv => whnf)
        | (refine mulG ?_; conv => whnf)
        | (refine And.intro rfl ?_; conv => whnf)
        | (refine dsT (by assumption) ?_; conv => whnf)
        | (refine dsF (by assumption) ?_; conv => whnf)
        | (refine nsT (by assumption) ?_; conv => whnf)
        | (refine nsF (by assumption) ?_; conv => whnf)
        | (refine bsT (by assumption) ?_; conv => whnf)
        | (refine bsF (by assumption) ?_; conv => whnf)
        | (refine dsp ?_ ?_ <;> intro _ <;> conv => whnf)
        | (refine nsp ?_ ?_ <;> intro _ <;> conv => whnf)
        | (refine cnd_true (by assumption) ?_; conv => whnf)
        | (refine cnd_false (by assumption) ?_; conv => whnf)
        | (refine cnd_split ?_ ?_ <;> intro _ <;> conv => whnf)
        | (refine Cd.par tabOk (by kernel_rfl) (by kernel_rfl) ?_; conv => whnf)
        | rfl
        | exact True.intro
        | (refine And.intro ?_ ?_ <;> conv => whnf))
theorem c_ProbeThree (a b : Ar) (wa : a.fw) (wb : b.fw) : Fc Tryz.prog n_ouroboroslaw18_ProbeThree [a.sv, b.sv] (sb true) := by
  have bb : blwL 0 [a.sv, b.sv] = true := blwL_cons (blw_ar 0 a) (blwL_one (blw_ar 0 b))
  have fa := c_law08_Few a
  have fb := c_law08_Few b
  by_cases h1 : arFew a
  case neg =>
    rw [decide_eq_false h1] at fa
    refine Fc.of_body tabOk q_ouroboroslaw18_ProbeThree (by kernel_rfl) (bb) (rfl) ?_
    conv => whnf
    repeat' (first
      | (refine bltG (by first | omega | (simp only [List.length_map] at *; omega)) ?_; conv => whnf)
      | (refine ndG (by assumption) ?_; conv => whnf)
      | (refine mulG ?_; conv => whnf)
      | (refine And.intro rfl ?_; conv => whnf)
      | (refine dsT (by assumption) ?_; conv => whnf)
      | (refine dsF (by assumption) ?_; conv => whnf)
      | (refine nsT (by assumption) ?_; conv => whnf)
      | (refine nsF (by assumption) ?_; conv => whnf)
      | (refine bsT (by assumption) ?_; conv => whnf)
      | (refine bsF (by assumption) ?_; conv => whnf)
      | (refine dsp ?_ ?_ <;> intro _ <;> conv => whnf)
      | (refine nsp ?_ ?_ <;> intro _ <;> conv => whnf)
      | (refine cnd_true (by assumption) ?_; conv => whnf)
      | (refine cnd_false (by assumption) ?_; conv => whnf)
      | (refine cnd_split ?_ ?_ <;> intro _ <;> conv => whnf)
      | (refine Cd.par tabOk (by kernel_rfl) (by kernel_rfl) ?_; conv => whnf)
      | (refine Fc.use (c_works) ?_ ?_; (focus ((repeat' constructor); done)); conv => whnf)
      | (refine CallQ.of (c_works) ?_ ?_; (focus ((repeat' constructor); done)); conv => whnf)
      | (refine Fc.use (fa) ?_ ?_; (focus ((repeat' constructor); done)); conv => whnf)
      | (refine CallQ.of (fa) ?_ ?_; (focus ((repeat' constructor); done)); conv => whnf))
    all_goals rfl
  by_cases h2 : arFew b
  case neg =>
    rw [decide_eq_true h1] at fa
    rw [decide_eq_false h2] at fb
    refine Fc.of_body tabOk q_ouroboroslaw18_ProbeThree (by kernel_rfl) (bb) (rfl) ?_
    conv => whnf
    repeat' (first
      | (refine bltG (by first | omega | (simp only [List.length_map] at *; omega)) ?_; conv => whnf)
      | (refine ndG (by assumption) ?_; conv => whnf)
      | (refine mulG ?_; conv => whnf)
      | (refine And.intro rfl ?_; conv => whnf)
      | (refine dsT (by assumption) ?_; conv => whnf)
      | (refine dsF (by assumption) ?_; conv => whnf)
      | (refine nsT (by assumption) ?_; conv => whnf)
      | (refine nsF (by assumption) ?_; conv => whnf)
      | (refine bsT (by assumption) ?_; conv => whnf)
      | (refine bsF (by assumption) ?_; conv => whnf)
      | (refine dsp ?_ ?_ <;> intro _ <;> conv => whnf)
      | (refine nsp ?_ ?_ <;> intro _ <;> conv => whnf)
      | (refine cnd_true (by assumption) ?_; conv => whnf)
      | (refine cnd_false (by assumption) ?_; conv => whnf)
      | (refine cnd_split ?_ ?_ <;> intro _ <;> conv => whnf)
      | (refine Cd.par tabOk (by kernel_rfl) (by kernel_rfl) ?_; conv => whnf)
      | (refine Fc.use (c_works) ?_ ?_; (focus ((repeat' constructor); done)); conv => whnf)
      | (refine CallQ.of (c_works) ?_ ?_; (focus ((repeat' constructor); done)); conv => whnf)
      | (refine Fc.use (fa) ?_ ?_; (focus ((repeat' constructor); done)); conv => whnf)
      | (refine CallQ.of (fa) ?_ ?_; (focus ((repeat' constructor); done)); conv => whnf)
      | (refine Fc.use (fb) ?_ ?_; (focus ((repeat' constructor); done)); conv => whnf)
      | (refine CallQ.of (fb) ?_ ?_; (focus ((repeat' constructor); done)); conv => whnf))
    all_goals rfl
  rw [decide_eq_true h1] at fa
  rw [decide_eq_true h2] at fb
  have ha := h1.bd
  have hb := h2.bd
  have ca := c_arena_Check a ha
  have cb := c_arena_Check b hb
  unfold en at ca cb
  by_cases k1 : arOk a
  case neg =>
    rw [if_neg k1] at ca
    refine Fc.of_body tabOk q_ouroboroslaw18_ProbeThree (by kernel_rfl) (bb) (rfl) ?_
    conv => whnf
    repeat' (first
      | (refine bltG (by first | omega | (simp only [List.length_map] at *; omega)) ?_; conv => whnf)
      | (refine ndG (by assumption) ?_; conv => whnf)
      | (refine mulG ?_; conv => whnf)
      | (refine And.intro rfl ?_; conv => whnf)
      | (refine dsT (by assumption) ?_; conv => whnf)
      | (refine dsF (by assumption) ?_; conv => whnf)
      | (refine nsT (by assumption) ?_; conv => whnf)
      | (refine nsF (by assumption) ?_; conv => whnf)
      | (refine bsT (by assumption) ?_; conv => whnf)
      | (refine bsF (by assumption) ?_; conv => whnf)
      | (refine dsp ?_ ?_ <;> intro _ <;> conv => whnf)
      | (refine nsp ?_ ?_ <;> intro _ <;> conv => whnf)
      | (refine cnd_true (by assumption) ?_; conv => whnf)
      | (refine cnd_false (by assumption) ?_; conv => whnf)
      | (refine cnd_split ?_ ?_ <;> intro _ <;> conv => whnf)
      | (refine Cd.par tabOk (by kernel_rfl) (by kernel_rfl) ?_; conv => whnf)
      | (refine Fc.use (c_works) ?_ ?_; (focus ((repeat' constructor); done)); conv => whnf)
      | (refine CallQ.of (c_works) ?_ ?_; (focus ((repeat' constructor); done)); conv => whnf)
      | (refine Fc.use (fa) ?_ ?_; (focus ((repeat' constructor); done)); conv => whnf)
      | (refine CallQ.of (fa) ?_ ?_; (focus ((repeat' constructor); done)); conv => whnf)
      | (refine Fc.use (fb) ?_ ?_; (focus ((repeat' constructor); done)); conv => whnf)
      | (refine CallQ.of (fb) ?_ ?_; (focus ((repeat' constructor); done)); conv => whnf)
      | (refine Fc.use (ca) ?_ ?_; (focus ((repeat' constructor); done)); conv => whnf)
      | (refine CallQ.of (ca) ?_ ?_; (focus ((repeat' constructor); done)); conv => whnf))
    all_goals rfl
  by_cases k2 : arOk b
  case neg =>
    rw [if_pos k1] at ca
    rw [if_neg k2] at cb
    refine Fc.of_body tabOk q_ouroboroslaw18_ProbeThree (by kernel_rfl) (bb) (rfl) ?_
    conv => whnf
    repeat' (first
      | (refine bltG (by first | omega | (simp only [List.length_map] at *; omega)) ?_; conv => whnf)
      | (refine ndG (by assumption) ?_; conv => whnf)
      | (refine mulG ?_; conv => whnf)
      | (refine And.intro rfl ?_; conv => whnf)
      | (refine dsT (by assumption) ?_; conv => whnf)
      | (refine dsF (by assumption) ?_; conv => whnf)
      | (refine nsT (by assumption) ?_; conv => whnf)
      | (refine nsF (by assumption) ?_; conv => whnf)
      | (refine bsT (by assumption) ?_; conv => whnf)
      | (refine bsF (by assumption) ?_; conv => whnf)
      | (refine dsp ?_ ?_ <;> intro _ <;> conv => whnf)
      | (refine nsp ?_ ?_ <;> intro _ <;> conv => whnf)
      | (refine cnd_true (by assumption) ?_; conv => whnf)
      | (refine cnd_false (by assumption) ?_; conv => whnf)
      | (refine cnd_split ?_ ?_ <;> intro _ <;> conv => whnf)
      | (refine Cd.par tabOk (by kernel_rfl) (by kernel_rfl) ?_; conv => whnf)
      | (refine Fc.use (c_works) ?_ ?_; (focus ((repeat' constructor); done)); conv => whnf)
      | (refine CallQ.of (c_works) ?_ ?_; (focus ((repeat' constructor); done)); conv => whnf)
      | (refine Fc.use (fa) ?_ ?_; (focus ((repeat' constructor); done)); conv => whnf)
      | (refine CallQ.of (fa) ?_ ?_; (focus ((repeat' constructor); done)); conv => whnf)
      | (refine Fc.use (fb) ?_ ?_; (focus ((repeat' constructor); done)); conv => whnf)
      | (refine CallQ.of (fb) ?_ ?_; (focus ((repeat' constructor); done)); conv => whnf)
      | (refine Fc.use (ca) ?_ ?_; (focus ((repeat' constructor); done)); conv => whnf)
      | (refine CallQ.of (ca) ?_ ?_; (focus ((repeat' constructor); done)); conv => whnf)
      | (refine Fc.use (cb) ?_ ?_; (focus ((repeat' constructor); done)); conv => whnf)
      | (refine CallQ.of (cb) ?_ ?_; (focus ((repeat' constructor); done)); conv => whnf))
    all_goals rfl
  rw [if_pos k1] at ca
  rw [if_pos k2] at cb
  have la := arFew.len k1
  have lb := arFew.len k2
  have m1 := c_arena_Merge a b.slots ha hb.1 (by omega)
  have m2 := c_arena_Merge b a.slots hb ha.1 (by omega)
  have ka := c_probe_Ask a ha
  have kw := c_Want b hb (askF a) (askF_bd a) 8
  have r1 := @mrg_ref a b.slots
  have r2 := @mrg_ref b a.slots
  have bJ := mrg_bd ha b.slots
  have bK := mrg_bd hb a.slots
  rw [mrg_is] at m1 m2 bJ bK
  generalize (mrg a b.slots).2.1 = u1 at *
  generalize (mrg b a.slots).2.1 = u2 at *
  generalize (mrg a b.slots).2.2 = v1 at *
  generalize (mrg b a.slots).2.2 = v2 at *
  by_cases hv : v1 = 0 ∧ v2 = 0
  case neg =>
    generalize decide (wantB b (askF a) 8) = wb' at kw
    generalize wantF b (askF a) 8 = wf at kw
    generalize mergeA a b.slots = J1 at *
    generalize mergeA b a.slots = J2 at *
    generalize askF a = FAa at *
    clear r1 r2
    by_cases hv1 : v1 = 0
    · have hv2 : (0 : Int) < (v2 : Int) := by omega
      have hv1' : ¬ (0 : Int) < (v1 : Int) := by omega
      refine Fc.of_body tabOk q_ouroboroslaw18_ProbeThree (by kernel_rfl) (bb) (rfl) ?_
      conv => whnf
      repeat' (first
        | (refine Cd.parT tabOk (by kernel_rfl) [7, 8] rfl ?_; conv => whnf)
        | (refine bltG (by first | omega | (simp only [List.length_map] at *; omega)) ?_; conv => whnf)
        | (refine ndG (by assumption) ?_; conv => whnf)
        | (refine mulG ?_; conv => whnf)
        | (refine And.intro rfl ?_; conv => whnf)
        | (refine dsT (by assumption) ?_; conv => whnf)
        | (refine dsF (by assumption) ?_; conv => whnf)
        | (refine nsT (by assumption) ?_; conv => whnf)
        | (refine nsF (by assumption) ?_; conv => whnf)
        | (refine bsT (by assumption) ?_; conv => whnf)
        | (refine bsF (by assumption) ?_; conv => whnf)
        | (refine dsp ?_ ?_ <;> intro _ <;> conv => whnf)
        | (refine nsp ?_ ?_ <;> intro _ <;> conv => whnf)
        | (refine cnd_true (by assumption) ?_; conv => whnf)
        | (refine cnd_false (by assumption) ?_; conv => whnf)
        | (refine cnd_split ?_ ?_ <;> intro _ <;> conv => whnf)
        | (refine Cd.par tabOk (by kernel_rfl) (by kernel_rfl) ?_; conv => whnf)
        | (refine Fc.use (c_works) ?_ ?_; (focus ((repeat' constructor); done)); conv => whnf)
        | (refine CallQ.of (c_works) ?_ ?_; (focus ((repeat' constructor); done)); conv => whnf)
        | (refine Fc.use (fa) ?_ ?_; (focus ((repeat' constructor); done)); conv => whnf)
        | (refine CallQ.of (fa) ?_ ?_; (focus ((repeat' constructor); done)); conv => whnf)
        | (refine Fc.use (fb) ?_ ?_; (focus ((repeat' constructor); done)); conv => whnf)
        | (refine CallQ.of (fb) ?_ ?_; (focus ((repeat' constructor); done)); conv => whnf)
        | (refine Fc.use (ca) ?_ ?_; (focus ((repeat' constructor); done)); conv => whnf)
        | (refine CallQ.of (ca) ?_ ?_; (focus ((repeat' constructor); done)); conv => whnf)
        | (refine Fc.use (cb) ?_ ?_; (focus ((repeat' constructor); done)); conv => whnf)
        | (refine CallQ.of (cb) ?_ ?_; (focus ((repeat' constructor); done)); conv => whnf)
        | (refine Fc.use (m1) ?_ ?_; (focus ((repeat' constructor); done)); conv => whnf)
        | (refine CallQ.of (m1) ?_ ?_; (focus ((repeat' constructor); done)); conv => whnf)
        | (refine Fc.use (m2) ?_ ?_; (focus ((repeat' constructor); done)); conv => whnf)
        | (refine CallQ.of (m2) ?_ ?_; (focus ((repeat' constructor); done)); conv => whnf)
        | (refine Fc.use (ka) ?_ ?_; (focus ((repeat' constructor); done)); conv => whnf)
        | (refine CallQ.of (ka) ?_ ?_; (focus ((repeat' constructor); done)); conv => whnf)
        | (refine Fc.use (kw) ?_ ?_; (focus ((repeat' constructor); done)); conv => whnf)
        | (refine CallQ.of (kw) ?_ ?_; (focus ((repeat' constructor); done)); conv => whnf)
        | rfl
        | exact True.intro
        | (refine And.intro ?_ ?_ <;> conv => whnf))
      all_goals rfl
    · have hv1' : (0 : Int) < (v1 : Int) := by omega
      refine Fc.of_body tabOk q_ouroboroslaw18_ProbeThree (by kernel_rfl) (bb) (rfl) ?_
      conv => whnf
      repeat' (first
        | (refine Cd.parT tabOk (by kernel_rfl) [7, 8] rfl ?_; conv => whnf)
        | (refine bltG (by first | omega | (simp only [List.length_map] at *; omega)) ?_; conv => whnf)
        | (refine ndG (by assumption) ?_; conv => whnf)
        | (refine mulG ?_; conv => whnf)
        | (refine And.intro rfl ?_; conv => whnf)
        | (refine dsT (by assumption) ?_; conv => whnf)
        | (refine dsF (by assumption) ?_; conv => whnf)
        | (refine nsT (by assumption) ?_; conv => whnf)
        | (refine nsF (by assumption) ?_; conv => whnf)
        | (refine bsT (by assumption) ?_; conv => whnf)
        | (refine bsF (by assumption) ?_; conv => whnf)
        | (refine dsp ?_ ?_ <;> intro _ <;> conv => whnf)
        | (refine nsp ?_ ?_ <;> intro _ <;> conv => whnf)
        | (refine cnd_true (by assumption) ?_; conv => whnf)
        | (refine cnd_false (by assumption) ?_; conv => whnf)
        | (refine cnd_split ?_ ?_ <;> intro _ <;> conv => whnf)
        | (refine Cd.par tabOk (by kernel_rfl) (by kernel_rfl) ?_; conv => whnf)
        | (refine Fc.use (c_works) ?_ ?_; (focus ((repeat' constructor); done)); conv => whnf)
        | (refine CallQ.of (c_works) ?_ ?_; (focus ((repeat' constructor); done)); conv => whnf)
        | (refine Fc.use (fa) ?_ ?_; (focus ((repeat' constructor); done)); conv => whnf)
        | (refine CallQ.of (fa) ?_ ?_; (focus ((repeat' constructor); done)); conv => whnf)
        | (refine Fc.use (fb) ?_ ?_; (focus ((repeat' constructor); done)); conv => whnf)
        | (refine CallQ.of (fb) ?_ ?_; (focus ((repeat' constructor); done)); conv => whnf)
        | (refine Fc.use (ca) ?_ ?_; (focus ((repeat' constructor); done)); conv => whnf)
        | (refine CallQ.of (ca) ?_ ?_; (focus ((repeat' constructor); done)); conv => whnf)
        | (refine Fc.use (cb) ?_ ?_; (focus ((repeat' constructor); done)); conv => whnf)
        | (refine CallQ.of (cb) ?_ ?_; (focus ((repeat' constructor); done)); conv => whnf)
        | (refine Fc.use (m1) ?_ ?_; (focus ((repeat' constructor); done)); conv => whnf)
        | (refine CallQ.of (m1) ?_ ?_; (focus ((repeat' constructor); done)); conv => whnf)
        | (refine Fc.use (m2) ?_ ?_; (focus ((repeat' constructor); done)); conv => whnf)
        | (refine CallQ.of (m2) ?_ ?_; (focus ((repeat' constructor); done)); conv => whnf)
        | (refine Fc.use (ka) ?_ ?_; (focus ((repeat' constructor); done)); conv => whnf)
        | (refine CallQ.of (ka) ?_ ?_; (focus ((repeat' constructor); done)); conv => whnf)
        | (refine Fc.use (kw) ?_ ?_; (focus ((repeat' constructor); done)); conv => whnf)
        | (refine CallQ.of (kw) ?_ ?_; (focus ((repeat' constructor); done)); conv => whnf)
        | rfl
        | exact True.intro
        | (refine And.intro ?_ ?_ <;> conv => whnf))
      all_goals rfl
  obtain ⟨rfl, rfl⟩ := hv
  have two : Two a b := ⟨k1, k2, wa, wb, r1.1 rfl, r2.1 rfl⟩
  by_cases hw : wantB b (askF a) 8
  case neg =>
    rw [decide_eq_false hw] at kw
    have hm0 : mskF b (askF a) = 0 := Classical.byContradiction fun hq => hw ⟨⟨askF_ok a, rfl, by omega, by omega⟩, hq⟩
    have hsm : [smF a 0, smF a 1, smF a 2, smF a 3] = [smF b 0, smF b 1, smF b 2, smF b 3] := by
      unfold mskF at hm0
      rw [dif_wgt] at hm0
      obtain ⟨q0, q1, q2, q3⟩ := wgt_0 _ _ _ _ hm0
      have e0 : smF b 0 = smF a 0 := of_decide_eq_true q0
      have e1 : smF b 1 = smF a 1 := of_decide_eq_true q1
      have e2 : smF b 2 = smF a 2 := of_decide_eq_true q2
      have e3 : smF b 3 = smF a 3 := of_decide_eq_true q3
      rw [e0, e1, e2, e3]
    have s1 := c_Sums a ha
    have s2 := c_Sums b hb
    generalize wantF b (askF a) 8 = wf at kw
    generalize mergeA a b.slots = J1 at *
    generalize mergeA b a.slots = J2 at *
    generalize askF a = FAa at *
    generalize smF a 0 = x0 at *
    generalize smF a 1 = x1 at *
    generalize smF a 2 = x2 at *
    generalize smF a 3 = x3 at *
    generalize smF b 0 = y0 at *
    generalize smF b 1 = y1 at *
    generalize smF b 2 = y2 at *
    generalize smF b 3 = y3 at *
    clear hw hm0 two r1 r2
    simp only [List.cons.injEq, and_true] at hsm
    obtain ⟨rfl, rfl, rfl, rfl⟩ := hsm
    refine Fc.of_body tabOk q_ouroboroslaw18_ProbeThree (by kernel_rfl) (bb) (rfl) ?_
    conv => whnf
    repeat' (first
      | (refine Cd.parT tabOk (by kernel_rfl) [7, 8] rfl ?_; conv => whnf)
      | (refine agg4d ?_; conv => whnf)
      | (refine bltG (by first | omega | (simp only [List.length_map] at *; omega)) ?_; conv => whnf)
      | (refine ndG (by assumption) ?_; conv => whnf)
      | (refine mulG ?_; conv => whnf)
      | (refine And.intro rfl ?_; conv => whnf)
      | (refine dsT (by assumption) ?_; conv => whnf)
      | (refine dsF (by assumption) ?_; conv => whnf)
      | (refine nsT (by assumption) ?_; conv => whnf)
      | (refine nsF (by assumption) ?_; conv => whnf)
      | (refine bsT (by assumption) ?_; conv => whnf)
      | (refine bsF (by assumption) ?_; conv => whnf)
      | (refine dsp ?_ ?_ <;> intro _ <;> conv => whnf)
      | (refine nsp ?_ ?_ <;> intro _ <;> conv => whnf)
      | (refine cnd_true (by assumption) ?_; conv => whnf)
      | (refine cnd_false (by assumption) ?_; conv => whnf)
      | (refine cnd_split ?_ ?_ <;> intro _ <;> conv => whnf)
      | (refine Cd.par tabOk (by kernel_rfl) (by kernel_rfl) ?_; conv => whnf)
      | (refine Fc.use (c_works) ?_ ?_; (focus ((repeat' constructor); done)); conv => whnf)
      | (refine CallQ.of (c_works) ?_ ?_; (focus ((repeat' constructor); done)); conv => whnf)
      | (refine Fc.use (fa) ?_ ?_; (focus ((repeat' constructor); done)); conv => whnf)
      | (refine CallQ.of (fa) ?_ ?_; (focus ((repeat' constructor); done)); conv => whnf)
      | (refine Fc.use (fb) ?_ ?_; (focus ((repeat' constructor); done)); conv => whnf)
      | (refine CallQ.of (fb) ?_ ?_; (focus ((repeat' constructor); done)); conv => whnf)
      | (refine Fc.use (ca) ?_ ?_; (focus ((repeat' constructor); done)); conv => whnf)
      | (refine CallQ.of (ca) ?_ ?_; (focus ((repeat' constructor); done)); conv => whnf)
      | (refine Fc.use (cb) ?_ ?_; (focus ((repeat' constructor); done)); conv => whnf)
      | (refine CallQ.of (cb) ?_ ?_; (focus ((repeat' constructor); done)); conv => whnf)
      | (refine Fc.use (m1) ?_ ?_; (focus ((repeat' constructor); done)); conv => whnf)
      | (refine CallQ.of (m1) ?_ ?_; (focus ((repeat' constructor); done)); conv => whnf)
      | (refine Fc.use (m2) ?_ ?_; (focus ((repeat' constructor); done)); conv => whnf)
      | (refine CallQ.of (m2) ?_ ?_; (focus ((repeat' constructor); done)); conv => whnf)
      | (refine Fc.use (ka) ?_ ?_; (focus ((repeat' constructor); done)); conv => whnf)
      | (refine CallQ.of (ka) ?_ ?_; (focus ((repeat' constructor); done)); conv => whnf)
      | (refine Fc.use (kw) ?_ ?_; (focus ((repeat' constructor); done)); conv => whnf)
      | (refine CallQ.of (kw) ?_ ?_; (focus ((repeat' constructor); done)); conv => whnf)
      | (refine Fc.use (s1) ?_ ?_; (focus ((repeat' constructor); done)); conv => whnf)
      | (refine CallQ.of (s1) ?_ ?_; (focus ((repeat' constructor); done)); conv => whnf)
      | (refine Fc.use (s2) ?_ ?_; (focus ((repeat' constructor); done)); conv => whnf)
      | (refine CallQ.of (s2) ?_ ?_; (focus ((repeat' constructor); done)); conv => whnf)
      | rfl
      | exact True.intro
      | (refine And.intro ?_ ?_ <;> conv => whnf))
    all_goals first | rfl | exact stT rfl
  rw [decide_eq_true hw] at kw
  have hfok := wantF_ok hw
  have hwf : wantF b (askF a) 8 = ⟨4, mskF b (askF a), 0, 0, 0, 0, 0, b.slots.filter (inM (mskF b (askF a)))⟩ := by rw [show wantF b (askF a) 8 = _ from if_pos hw, inF_all k2]
  rw [hwf] at kw hfok
  obtain ⟨kk, hgf, hgn⟩ := giveF_es hfok rfl k1
  have hwbd := wantF_bd b (askF a) 8
  rw [hwf] at hwbd
  have kg := c_Give a ha _ hwbd 8
  rw [hgf] at kg
  dsimp only at kg hgn
  have hb' := dif_bd (smF b 0) (smF b 1) (smF b 2) (smF b 3) (askF a).l0 (askF a).l1 (askF a).l2 (askF a).l3
  have hM : 1 ≤ mskF b (askF a) ∧ mskF b (askF a) ≤ 15 := by have := hw.2; unfold mskF at *; omega
  have m3 := c_arena_Merge a (b.slots.filter (inM (mskF b (askF a)))) ha (fun e he => hb.1 e (List.mem_filter.1 he).1) (Nat.le_trans (List.length_filter_le ..) (by omega))
  have m4 := c_arena_Merge b (a.slots.filter (inM (mskF b (askF a)))) hb (fun e he => ha.1 e (List.mem_filter.1 he).1) (Nat.le_trans (List.length_filter_le ..) (by omega))
  have bC := mrg_bd ha (b.slots.filter (inM (mskF b (askF a))))
  have bD := mrg_bd hb (a.slots.filter (inM (mskF b (askF a))))
  rw [mrg_ref.2 (two.noRef _)] at m3
  rw [mrg_ref.2 (two.symm.noRef _)] at m4
  rw [mrg_is] at m3 m4 bC bD
  have b1 := c_Below _ _ bC bJ
  have b2 := c_Below _ _ bD bK
  rw [decide_eq_true (two.below _)] at b1
  rw [decide_eq_true (two.symm.below _)] at b2
  have fC := c_arena_Find1 _ bC (two.okC _)
  have fD := c_arena_Find1 _ bD (two.symm.okC _)
  refine three_main a b _ _ _ _ _ kk _ _ _ _ _ _ _ _ fa fb ca cb m1 m2 ka kw kg m3 m4 b1 b2 (fun h => hgn (of_decide_eq_false h)) hM fC fD (fun s hs => ?_) (arFew.len (two.okC _))
  refine ⟨(two.okC _).ent hs, mergeA_fw _ _ wa wb s hs, fun hm => ?_⟩
  obtain ⟨l1, l2⟩ := two.both _ hs hm
  obtain ⟨p, p1, p2, _⟩ := find_lk (two.okC _).dist l1
  obtain ⟨q, q1, q2, _⟩ := find_lk (two.symm.okC _).dist l2
  exact ⟨p, q, p1, p2, q1, q2⟩
end Go.Proofs.YtmjpidjdbofdjaaGreat

