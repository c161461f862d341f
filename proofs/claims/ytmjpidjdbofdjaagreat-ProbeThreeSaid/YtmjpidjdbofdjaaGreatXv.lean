import Derived.Test.YtmjpidjdbofdjaaGreatXu
import Derived.Test.YtmjpidjdbofdjaaGreatPg
/- The law ProbeBounds. -/
set_option linter.unusedVariables false
set_option linter.unusedSimpArgs false
set_option maxRecDepth 100000
set_option maxHeartbeats 1600000
namespace Go.Proofs.YtmjpidjdbofdjaaGreat
open Go Go.Sy
theorem blw_one (m : Nat) (e : Ent) : blw m (oneA e).sv = true := blw_ar m _
theorem c_one (e : Ent) : Fc Tryz.prog n_ouroboroslaw18_one [e.sv] (oneA e).sv := by
  refine Fc.of_body tabOk q_ouroboroslaw18_one (by kernel_rfl) ((blwL_one (blw_ent 0 e))) ((blw_one 0 e)) ?_
  conv => whnf
  repeat' (first
    | (refine bltG (by first | omega | (simp only [List.length_map] at *; omega)) ?_; conv => whnf)
    | (refine ndG (by assumption) ?_; conv => whnf)
    | (refine mulG ?_; conv => whnf)
    | (refine And.intro rfl ?_; conv => whnf)
    | (refine dsT (by assumption) ?_; conv => whnf)
    | (refine dsF (by assumption) ?_; conv => whnf)
    | (refine nsT (by assumption) ?_; conv => whnf)
    | (refine nsF (by assumption) ?_; conv => whnf)
    | (refine bsT (by assumption) ?_; conv => whnf)
    | (refine bsF (by assumption) ?_; conv => whnf)
    | (refine dsp ?_ ?_ <;> intro _ <;> conv => whnf)
    | (refine nsp ?_ ?_ <;> intro _ <;> conv => whnf)
    | (refine cnd_true (by assumption) ?_; conv => whnf)
    | (refine cnd_false (by assumption) ?_; conv => whnf)
    | (refine cnd_split ?_ ?_ <;> intro _ <;> conv => whnf)
    | (refine Cd.par tabOk (by kernel_rfl) (by kernel_rfl) ?_; conv => whnf)
    | rfl
    | exact True.intro
    | (refine And.intro ?_ ?_ <;> conv => whnf))
  all_goals first | rfl | skip
  all_goals sorry
/-- What is wanted and what is given, as the law looks at it. -/
structure Told2 (a : Ar) (f : Fra) (k : Nat) (G H : Fra) (is so : Bool) : Prop where
  kw : Fc Tryz.prog n_probe_Want [a.sv, f.sv, iv k] (.tup [G.sv, sb is])
  kg : Fc Tryz.prog n_probe_Give [a.sv, f.sv, iv k] (.tup [H.sv, sb so])
  kc : is = true → Fc Tryz.prog n_frame_Check [G.sv] (iv 0)
  kd : so = true → Fc Tryz.prog n_frame_Check [H.sv] (iv 0)
  mem : ∀ e ∈ G.es ++ H.es, e ∈ a.slots
  lg : G.es.length ≤ k
  lh : H.es.length ≤ k
  ne : so = true → H.es ≠ []
  not2 : ¬ (is = true ∧ so = true)
  one : G.es = [] ∨ H.es = []
theorem told2 {a : Ar} {f : Fra} {k : Nat} (ha : a.bd) (hf : f.bd) (hk : 1 ≤ k) : Told2 a f k (wantF a f k) (giveF a f k) (decide (wantB a f k)) (decide (giveB a f k)) where
  kw := c_Want a ha f hf k
  kg := c_Give a ha f hf k
  kc := fun h => by
    have kc := c_frame_Check _ (wantF_bd a f k)
    unfold en at kc
    rwa [if_pos (wantF_ok (of_decide_eq_true h))] at kc
  kd := fun h => by
    have kc := c_frame_Check _ (giveF_bd a f k)
    unfold en at kc
    rwa [if_pos (giveF_ok (of_decide_eq_true h))] at kc
  mem := fun e he => by
    rcases List.mem_append.1 he with he | he
    · unfold wantF at he
      split at he
      · exact inF_mem he
      · simp [FZ] at he
    · unfold giveF at he
      split at he
      · exact inF_mem he
      · simp [FZ] at he
  lg := by
    unfold wantF
    split
    · have := inS_most (mask := mskF a f) (most := k) (by omega) (slotsOf a)
      show (inF a (mskF a f) k).length ≤ k
      unfold inF
      omega
    · simp [FZ]
  lh := by
    unfold giveF
    split
    · have := inS_most (mask := f.a) (most := k) (by omega) (slotsOf a)
      show (inF a f.a k).length ≤ k
      unfold inF
      omega
    · simp [FZ]
  ne := fun h => by
    have hg := of_decide_eq_true h
    unfold giveF
    rw [if_pos hg]
    exact hg.2
  not2 := fun ⟨h1, h2⟩ => by
    have e1 := (of_decide_eq_true h1).1.2.1
    have e2 := (of_decide_eq_true h2).1.2.1
    omega
  one := by
    unfold wantF giveF
    by_cases h1 : wantB a f k
    · refine .inr ?_
      rw [if_neg]
      · rfl
      · intro h2
        have e1 := h1.1.2.1
        have e2 := h2.1.2.1
        omega
    · rw [if_neg h1]
      exact .inl rfl
theorem mulF {a x sz : Nat} {k : Nat → Nat → Prop} (h : k a x) : ∃ m f, a * sz + x = m * sz + f ∧ k m f := ⟨a, x, rfl, h⟩
theorem mulF2 {a x y sz : Nat} {k : Nat → Nat → Prop} (h : k a (x + y)) : ∃ m f, a * sz + x + y = m * sz + f ∧ k m f := ⟨a, x + y, by omega, h⟩
theorem lfI {α : Type} {l : List α} {k : List α → Prop} (h : k l) : lf l k := by rw [lf_eq]; exact h
theorem bounds_1 (a : Ar) (f : Fra) (n : Int) (k : Nat) (hk8 : k ≤ 8) (hkw : SV.v (.int .i64 (IntKind.wrap .i64 ((IntKind.wrap .i64 n).tmod 8 + 1))) = iv k) (wa : a.fw) (ka : arOk a)
    (fa : Fc Tryz.prog n_ouroboroslaw08_Few [a.sv] (sb true)) (fe : Fc Tryz.prog n_ouroboroslaw08_Entries [ents f.es, iv 12] (sb true)) (ca : Fc Tryz.prog n_arena_Check [a.sv] (iv 0))
    (ha : a.bd) {g0 g1 g2 g3 g4 g5 g6 h0 h1 h2 h3 h4 h5 h6 : Int} {x : Ent} {r : List Ent} (T : Told2 a f k ⟨g0, g1, g2, g3, g4, g5, g6, x :: r⟩ ⟨h0, h1, h2, h3, h4, h5, h6, []⟩ true false) : Fc Tryz.prog n_ouroboroslaw18_ProbeBounds [a.sv, f.sv, .v (.int .u8 n)] (sb true) := by
  have bb : blwL 0 [a.sv, f.sv, .v (.int .u8 n)] = true := blwL_cons (blw_ar 0 a) (blwL_cons (blw_fra 0 f) (blwL_one rfl))
  obtain ⟨kw, kg, kc, kd, mem, lg, lh, ne, not2, one⟩ := T
  rw [← hkw] at kw kg
  have hmx : 4096 ≤ maxLen := by decide
  dsimp only at *
  have hwk : IntKind.wrap .i64 ((IntKind.wrap .i64 n).tmod 8 + 1) = k := by simpa [iv] using hkw
  have hGk : (((x :: r).map Ent.sv).length : Int) ≤ IntKind.wrap .i64 ((IntKind.wrap .i64 n).tmod 8 + 1) := by rw [hwk, List.length_map]; omega
  have hHk : ((([] : List Ent).map Ent.sv).length : Int) ≤ IntKind.wrap .i64 ((IntKind.wrap .i64 n).tmod 8 + 1) := by rw [hwk, List.length_map]; omega
  have hG : ((x :: r).map Ent.sv).length ≤ 4096 := by rw [List.length_map]; omega
  have hH : (([] : List Ent).map Ent.sv).length ≤ 4096 := by rw [List.length_map]; omega
  obtain ⟨L, hL⟩ : ∃ L, L = x :: r := ⟨_, rfl⟩
  obtain ⟨N, hN⟩ : ∃ N, N = ((x :: r).map Ent.sv).length := ⟨_, rfl⟩
  have hNL : N = L.length := by rw [hN, hL, List.length_map]
  have hpos : (0 : Int) < (((x :: r).map Ent.sv).length : Int) := by rw [List.length_map, List.length_cons]; omega
  refine Fc.of_body tabOk q_ouroboroslaw18_ProbeBounds (by kernel_rfl) (bb) (rfl) ?_
  conv => whnf
  repeat' (first
    | (refine Cd.parT tabOk (by kernel_rfl) [0, 3, 6] rfl ?_; conv => whnf)
    | (refine bltG (by first | omega | (simp only [List.length_map] at *; omega)) ?_; conv => whnf)
    | (refine ndG (by assumption) ?_; conv => whnf)
    | (refine mulG ?_; conv => whnf)
    | (refine And.intro rfl ?_; conv => whnf)
    | (refine dsT (by assumption) ?_; conv => whnf)
    | (refine dsF (by assumption) ?_; conv => whnf)
    | (refine nsT (by assumption) ?_; conv => whnf)
    | (refine nsF (by assumption) ?_; conv => whnf)
    | (refine bsT (by assumption) ?_; conv => whnf)
    | (refine bsF (by assumption) ?_; conv => whnf)
    | (refine dsp ?_ ?_ <;> intro _ <;> conv => whnf)
    | (refine nsp ?_ ?_ <;> intro _ <;> conv => whnf)
    | (refine cnd_true (by assumption) ?_; conv => whnf)
    | (refine cnd_false (by assumption) ?_; conv => whnf)
    | (refine cnd_split ?_ ?_ <;> intro _ <;> conv => whnf)
    | (refine Cd.par tabOk (by kernel_rfl) (by kernel_rfl) ?_; conv => whnf)
    | (refine Fc.use (c_works) ?_ ?_; (focus ((repeat' constructor); done)); conv => whnf)
    | (refine CallQ.of (c_works) ?_ ?_; (focus ((repeat' constructor); done)); conv => whnf)
    | (refine Fc.use (fa) ?_ ?_; (focus ((repeat' constructor); done)); conv => whnf)
    | (refine CallQ.of (fa) ?_ ?_; (focus ((repeat' constructor); done)); conv => whnf)
    | (refine Fc.use (fe) ?_ ?_; (focus ((repeat' constructor); done)); conv => whnf)
    | (refine CallQ.of (fe) ?_ ?_; (focus ((repeat' constructor); done)); conv => whnf)
    | (refine Fc.use (ca) ?_ ?_; (focus ((repeat' constructor); done)); conv => whnf)
    | (refine CallQ.of (ca) ?_ ?_; (focus ((repeat' constructor); done)); conv => whnf)
    | (refine Fc.use (kw) ?_ ?_; (focus ((repeat' constructor); done)); conv => whnf)
    | (refine CallQ.of (kw) ?_ ?_; (focus ((repeat' constructor); done)); conv => whnf)
    | (refine Fc.use (kg) ?_ ?_; (focus ((repeat' constructor); done)); conv => whnf)
    | (refine CallQ.of (kg) ?_ ?_; (focus ((repeat' constructor); done)); conv => whnf)
    | rfl
    | exact True.intro
    | (refine And.intro ?_ ?_ <;> conv => whnf))
  · exact Nat.le_trans hG hmx
  · refine Nat.le_trans (Nat.mul_le_mul_right _ hG) ?_
    decide
  intro A' c' hv
  have hA : ∃ g, A' = some ⟨g, 0, none⟩ := rowV_some hv (fun h => by cases h)
  obtain ⟨g, hg⟩ := hA
  subst hg
  conv => whnf
  repeat' (first
    | (refine bltG (by first | omega | (simp only [List.length_map] at *; omega)) ?_; conv => whnf)
    | (refine ndG (by assumption) ?_; conv => whnf)
    | (refine mulG ?_; conv => whnf)
    | (refine And.intro rfl ?_; conv => whnf)
    | (refine dsT (by assumption) ?_; conv => whnf)
    | (refine dsF (by assumption) ?_; conv => whnf)
    | (refine nsT (by assumption) ?_; conv => whnf)
    | (refine nsF (by assumption) ?_; conv => whnf)
    | (refine bsT (by assumption) ?_; conv => whnf)
    | (refine bsF (by assumption) ?_; conv => whnf)
    | (refine dsp ?_ ?_ <;> intro _ <;> conv => whnf)
    | (refine nsp ?_ ?_ <;> intro _ <;> conv => whnf)
    | (refine cnd_true (by assumption) ?_; conv => whnf)
    | (refine cnd_false (by assumption) ?_; conv => whnf)
    | (refine cnd_split ?_ ?_ <;> intro _ <;> conv => whnf)
    | (refine Cd.par tabOk (by kernel_rfl) (by kernel_rfl) ?_; conv => whnf)
    | rfl
    | exact True.intro
    | (refine And.intro ?_ ?_ <;> conv => whnf))
  · exact Nat.le_trans hG hmx
  · refine Nat.le_trans (Nat.mul_le_mul_right _ hG) ?_
    decide
  intro A' c' hv
  have hA : ∃ g, A' = some ⟨g, 0, none⟩ := rowV_some hv (fun h => by cases h)
  obtain ⟨g', hg⟩ := hA
  subst hg
  conv => whnf
  refine lfI ?_
  conv => whnf
  repeat' (first
    | (refine bltG (by first | omega | (simp only [List.length_map] at *; omega)) ?_; conv => whnf)
    | (refine ndG (by assumption) ?_; conv => whnf)
    | (refine mulG ?_; conv => whnf)
    | (refine And.intro rfl ?_; conv => whnf)
    | (refine dsT (by assumption) ?_; conv => whnf)
    | (refine dsF (by assumption) ?_; conv => whnf)
    | (refine nsT (by assumption) ?_; conv => whnf)
    | (refine nsF (by assumption) ?_; conv => whnf)
    | (refine bsT (by assumption) ?_; conv => whnf)
    | (refine bsF (by assumption) ?_; conv => whnf)
    | (refine dsp ?_ ?_ <;> intro _ <;> conv => whnf)
    | (refine nsp ?_ ?_ <;> intro _ <;> conv => whnf)
    | (refine cnd_true (by assumption) ?_; conv => whnf)
    | (refine cnd_false (by assumption) ?_; conv => whnf)
    | (refine cnd_split ?_ ?_ <;> intro _ <;> conv => whnf)
    | (refine Cd.par tabOk (by kernel_rfl) (by kernel_rfl) ?_; conv => whnf)
    | rfl
    | exact True.intro
    | (refine And.intro ?_ ?_ <;> conv => whnf))
  refine loopP tabOk (fun i : Nat => i ≤ L.length)
    (fun i => ⟨[(15, iv i), (14, .own 0 (some ⟨g', 0, none⟩) N c'), (13, sb _), (12, .loc 3 0), (11, sb _), (10, .loc 2 0), (9, SV.v (.int .i64 (IntKind.wrap .i64 ((IntKind.wrap .i64 n).tmod 8 + 1)))), (7, sb true), (3, .loc 0 0)], []⟩)
    (fun i => ⟨4, [.c [iv a.cap, ents a.slots, ints a.index], .c (Fra.cs f), .c (Fra.cs ⟨g0, g1, g2, g3, g4, g5, g6, x :: r⟩), .c (Fra.cs ⟨h0, h1, h2, h3, h4, h5, h6, []⟩)], [⟨(some ⟨g', 0, none⟩), N, c', t_Entry, 9, L.map Ent.sv, false⟩]⟩)
    (fun i => L.length - i) 0 (Nat.zero_le _)
    ⟨by (repeat' constructor); first | exact congrArg (fun q => SV.own 0 _ q _) hN | (rw [hN]; rfl), rfl, ⟨by first | (rw [hN, hL]; done) | (rw [hN, hL]; simp), trivial⟩, by repeat' constructor, rfl, .inl rfl⟩ (fun _ => rfl) ?_
  intro i hi
  conv => whnf
  refine dsp ?_ ?_ <;> intro hlt <;> conv => whnf
  · have hlt' : i < L.length := by omega
    obtain ⟨y, hy⟩ : ∃ y, L[i]? = some y := ⟨_, List.getElem?_eq_getElem hlt'⟩
    have hym : y ∈ a.slots := mem y (by have := List.mem_of_getElem? hy; rw [hL] at this; simpa using this)
    obtain ⟨j, hj1, hj2, hj3⟩ := find_lk ka.dist (lk_mem ka.dist hym (named.refl y))
    have hf := c_arena_Find1 a ha ka y.val.kind y.key
    rw [hj1] at hf
    have hneg : ¬ ((j : Nat) : Int) < 0 := by omega
    have hoy := ka.ent hym
    have hal := c_Alike (oneA y) (oneA y) (one_bd hoy) (one_bd hoy)
    rw [decide_eq_true (one_alike hoy (wa y hym))] at hal
    have hone := c_one y
    generalize oneA y = oy at hal hone
    repeat' (first
      | (refine mulF ?_; conv => whnf)
      | (refine mulF2 ?_; conv => whnf)
      | (refine bltG (by first | omega | (simp only [List.length_map] at *; omega)) ?_; conv => whnf)
      | (refine ndG (by assumption) ?_; conv => whnf)
      | (refine mulG ?_; conv => whnf)
      | (refine And.intro rfl ?_; conv => whnf)
      | (refine dsT (by assumption) ?_; conv => whnf)
      | (refine dsF (by assumption) ?_; conv => whnf)
      | (refine nsT (by assumption) ?_; conv => whnf)
      | (refine nsF (by assumption) ?_; conv => whnf)
      | (refine bsT (by assumption) ?_; conv => whnf)
      | (refine bsF (by assumption) ?_; conv => whnf)
      | (refine dsp ?_ ?_ <;> intro _ <;> conv => whnf)
      | (refine nsp ?_ ?_ <;> intro _ <;> conv => whnf)
      | (refine cnd_true (by assumption) ?_; conv => whnf)
      | (refine cnd_false (by assumption) ?_; conv => whnf)
      | (refine cnd_split ?_ ?_ <;> intro _ <;> conv => whnf)
      | (refine Cd.par tabOk (by kernel_rfl) (by kernel_rfl) ?_; conv => whnf)
      | (refine Fc.use (hf) ?_ ?_; (focus ((repeat' constructor); done)); conv => whnf)
      | (refine CallQ.of (hf) ?_ ?_; (focus ((repeat' constructor); done)); conv => whnf)
      | (refine Fc.use (hone) ?_ ?_; (focus ((repeat' constructor); done)); conv => whnf)
      | (refine CallQ.of (hone) ?_ ?_; (focus ((repeat' constructor); done)); conv => whnf)
      | (refine Fc.use (hal) ?_ ?_; (focus ((repeat' constructor); done)); conv => whnf)
      | (refine CallQ.of (hal) ?_ ?_; (focus ((repeat' constructor); done)); conv => whnf)
      | rfl
      | exact True.intro
      | (refine And.intro ?_ ?_ <;> conv => whnf))
    refine ⟨i + 1, (by omega), ?_, ⟨?_, rfl, ?_, ?_, rfl, ?_⟩⟩
    · first | omega | (simp only [List.length_map] at *; omega)
    · (repeat' constructor) <;> first | (refine ivW ?_ ?_ ?_ <;> first | omega | (dsimp only; omega))
    · (repeat' (first | constructor))
    · repeat' constructor
    · first | exact .inl rfl | exact .inr ⟨by simp [blwE, blw, blwL, blwB, blwX, blwR, blw_iv, blw_ints, blw_ents, blw_ent, blw_val, blw_ar, blwL_map (blw_ent _), blwL_map (blw_iv _), sb, ss] <;> rfl, rfl, by simp [blwE, blw, blwL, blwB, blwX, blwR, blw_iv, blw_ints, blw_ents, blw_ent, blw_val, blw_ar, blwL_map (blw_ent _), blwL_map (blw_iv _), sb, ss] <;> rfl, by simp [blwE, blw, blwL, blwB, blwX, blwR, blw_iv, blw_ints, blw_ents, blw_ent, blw_val, blw_ar, blwL_map (blw_ent _), blwL_map (blw_iv _), sb, ss]⟩
  · repeat' (first
      | (refine bltG (by first | omega | (simp only [List.length_map] at *; omega)) ?_; conv => whnf)
      | (refine ndG (by assumption) ?_; conv => whnf)
      | (refine mulG ?_; conv => whnf)
      | (refine And.intro rfl ?_; conv => whnf)
      | (refine dsT (by assumption) ?_; conv => whnf)
      | (refine dsF (by assumption) ?_; conv => whnf)
      | (refine nsT (by assumption) ?_; conv => whnf)
      | (refine nsF (by assumption) ?_; conv => whnf)
      | (refine bsT (by assumption) ?_; conv => whnf)
      | (refine bsF (by assumption) ?_; conv => whnf)
      | (refine dsp ?_ ?_ <;> intro _ <;> conv => whnf)
      | (refine nsp ?_ ?_ <;> intro _ <;> conv => whnf)
      | (refine cnd_true (by assumption) ?_; conv => whnf)
      | (refine cnd_false (by assumption) ?_; conv => whnf)
      | (refine cnd_split ?_ ?_ <;> intro _ <;> conv => whnf)
      | (refine Cd.par tabOk (by kernel_rfl) (by kernel_rfl) ?_; conv => whnf)
      | (refine Fc.use ((kc rfl)) ?_ ?_; (focus ((repeat' constructor); done)); conv => whnf)
      | (refine CallQ.of ((kc rfl)) ?_ ?_; (focus ((repeat' constructor); done)); conv => whnf)
      | (refine Fc.use ((kd rfl)) ?_ ?_; (focus ((repeat' constructor); done)); conv => whnf)
      | (refine CallQ.of ((kd rfl)) ?_ ?_; (focus ((repeat' constructor); done)); conv => whnf)
      | rfl
      | exact True.intro
      | (refine And.intro ?_ ?_ <;> conv => whnf))
    all_goals first | rfl | skip
theorem bounds_2 (a : Ar) (f : Fra) (n : Int) (k : Nat) (hk8 : k ≤ 8) (hkw : SV.v (.int .i64 (IntKind.wrap .i64 ((IntKind.wrap .i64 n).tmod 8 + 1))) = iv k) (wa : a.fw) (ka : arOk a)
    (fa : Fc Tryz.prog n_ouroboroslaw08_Few [a.sv] (sb true)) (fe : Fc Tryz.prog n_ouroboroslaw08_Entries [ents f.es, iv 12] (sb true)) (ca : Fc Tryz.prog n_arena_Check [a.sv] (iv 0))
    (ha : a.bd) {g0 g1 g2 g3 g4 g5 g6 h0 h1 h2 h3 h4 h5 h6 : Int} {x : Ent} {r : List Ent} (T : Told2 a f k ⟨g0, g1, g2, g3, g4, g5, g6, x :: r⟩ ⟨h0, h1, h2, h3, h4, h5, h6, []⟩ false false) : Fc Tryz.prog n_ouroboroslaw18_ProbeBounds [a.sv, f.sv, .v (.int .u8 n)] (sb true) := by
  have bb : blwL 0 [a.sv, f.sv, .v (.int .u8 n)] = true := blwL_cons (blw_ar 0 a) (blwL_cons (blw_fra 0 f) (blwL_one rfl))
  obtain ⟨kw, kg, kc, kd, mem, lg, lh, ne, not2, one⟩ := T
  rw [← hkw] at kw kg
  have hmx : 4096 ≤ maxLen := by decide
  dsimp only at *
  have hwk : IntKind.wrap .i64 ((IntKind.wrap .i64 n).tmod 8 + 1) = k := by simpa [iv] using hkw
  have hGk : (((x :: r).map Ent.sv).length : Int) ≤ IntKind.wrap .i64 ((IntKind.wrap .i64 n).tmod 8 + 1) := by rw [hwk, List.length_map]; omega
  have hHk : ((([] : List Ent).map Ent.sv).length : Int) ≤ IntKind.wrap .i64 ((IntKind.wrap .i64 n).tmod 8 + 1) := by rw [hwk, List.length_map]; omega
  have hG : ((x :: r).map Ent.sv).length ≤ 4096 := by rw [List.length_map]; omega
  have hH : (([] : List Ent).map Ent.sv).length ≤ 4096 := by rw [List.length_map]; omega
  obtain ⟨L, hL⟩ : ∃ L, L = x :: r := ⟨_, rfl⟩
  obtain ⟨N, hN⟩ : ∃ N, N = ((x :: r).map Ent.sv).length := ⟨_, rfl⟩
  have hNL : N = L.length := by rw [hN, hL, List.length_map]
  have hpos : (0 : Int) < (((x :: r).map Ent.sv).length : Int) := by rw [List.length_map, List.length_cons]; omega
  refine Fc.of_body tabOk q_ouroboroslaw18_ProbeBounds (by kernel_rfl) (bb) (rfl) ?_
  conv => whnf
  repeat' (first
    | (refine Cd.parT tabOk (by kernel_rfl) [0, 3, 6] rfl ?_; conv => whnf)
    | (refine bltG (by first | omega | (simp only [List.length_map] at *; omega)) ?_; conv => whnf)
    | (refine ndG (by assumption) ?_; conv => whnf)
    | (refine mulG ?_; conv => whnf)
    | (refine And.intro rfl ?_; conv => whnf)
    | (refine dsT (by assumption) ?_; conv => whnf)
    | (refine dsF (by assumption) ?_; conv => whnf)
    | (refine nsT (by assumption) ?_; conv => whnf)
    | (refine nsF (by assumption) ?_; conv => whnf)
    | (refine bsT (by assumption) ?_; conv => whnf)
    | (refine bsF (by assumption) ?_; conv => whnf)
    | (refine dsp ?_ ?_ <;> intro _ <;> conv => whnf)
    | (refine nsp ?_ ?_ <;> intro _ <;> conv => whnf)
    | (refine cnd_true (by assumption) ?_; conv => whnf)
    | (refine cnd_false (by assumption) ?_; conv => whnf)
    | (refine cnd_split ?_ ?_ <;> intro _ <;> conv => whnf)
    | (refine Cd.par tabOk (by kernel_rfl) (by kernel_rfl) ?_; conv => whnf)
    | (refine Fc.use (c_works) ?_ ?_; (focus ((repeat' constructor); done)); conv => whnf)
    | (refine CallQ.of (c_works) ?_ ?_; (focus ((repeat' constructor); done)); conv => whnf)
    | (refine Fc.use (fa) ?_ ?_; (focus ((repeat' constructor); done)); conv => whnf)
    | (refine CallQ.of (fa) ?_ ?_; (focus ((repeat' constructor); done)); conv => whnf)
    | (refine Fc.use (fe) ?_ ?_; (focus ((repeat' constructor); done)); conv => whnf)
    | (refine CallQ.of (fe) ?_ ?_; (focus ((repeat' constructor); done)); conv => whnf)
    | (refine Fc.use (ca) ?_ ?_; (focus ((repeat' constructor); done)); conv => whnf)
    | (refine CallQ.of (ca) ?_ ?_; (focus ((repeat' constructor); done)); conv => whnf)
    | (refine Fc.use (kw) ?_ ?_; (focus ((repeat' constructor); done)); conv => whnf)
    | (refine CallQ.of (kw) ?_ ?_; (focus ((repeat' constructor); done)); conv => whnf)
    | (refine Fc.use (kg) ?_ ?_; (focus ((repeat' constructor); done)); conv => whnf)
    | (refine CallQ.of (kg) ?_ ?_; (focus ((repeat' constructor); done)); conv => whnf)
    | rfl
    | exact True.intro
    | (refine And.intro ?_ ?_ <;> conv => whnf))
  · exact Nat.le_trans hG hmx
  · refine Nat.le_trans (Nat.mul_le_mul_right _ hG) ?_
    decide
  intro A' c' hv
  have hA : ∃ g, A' = some ⟨g, 0, none⟩ := rowV_some hv (fun h => by cases h)
  obtain ⟨g, hg⟩ := hA
  subst hg
  conv => whnf
  repeat' (first
    | (refine bltG (by first | omega | (simp only [List.length_map] at *; omega)) ?_; conv => whnf)
    | (refine ndG (by assumption) ?_; conv => whnf)
    | (refine mulG ?_; conv => whnf)
    | (refine And.intro rfl ?_; conv => whnf)
    | (refine dsT (by assumption) ?_; conv => whnf)
    | (refine dsF (by assumption) ?_; conv => whnf)
    | (refine nsT (by assumption) ?_; conv => whnf)
    | (refine nsF (by assumption) ?_; conv => whnf)
    | (refine bsT (by assumption) ?_; conv => whnf)
    | (refine bsF (by assumption) ?_; conv => whnf)
    | (refine dsp ?_ ?_ <;> intro _ <;> conv => whnf)
    | (refine nsp ?_ ?_ <;> intro _ <;> conv => whnf)
    | (refine cnd_true (by assumption) ?_; conv => whnf)
    | (refine cnd_false (by assumption) ?_; conv => whnf)
    | (refine cnd_split ?_ ?_ <;> intro _ <;> conv => whnf)
    | (refine Cd.par tabOk (by kernel_rfl) (by kernel_rfl) ?_; conv => whnf)
    | rfl
    | exact True.intro
    | (refine And.intro ?_ ?_ <;> conv => whnf))
  · exact Nat.le_trans hG hmx
  · refine Nat.le_trans (Nat.mul_le_mul_right _ hG) ?_
    decide
  intro A' c' hv
  have hA : ∃ g, A' = some ⟨g, 0, none⟩ := rowV_some hv (fun h => by cases h)
  obtain ⟨g', hg⟩ := hA
  subst hg
  conv => whnf
  refine lfI ?_
  conv => whnf
  repeat' (first
    | (refine bltG (by first | omega | (simp only [List.length_map] at *; omega)) ?_; conv => whnf)
    | (refine ndG (by assumption) ?_; conv => whnf)
    | (refine mulG ?_; conv => whnf)
    | (refine And.intro rfl ?_; conv => whnf)
    | (refine dsT (by assumption) ?_; conv => whnf)
    | (refine dsF (by assumption) ?_; conv => whnf)
    | (refine nsT (by assumption) ?_; conv => whnf)
    | (refine nsF (by assumption) ?_; conv => whnf)
    | (refine bsT (by assumption) ?_; conv => whnf)
    | (refine bsF (by assumption) ?_; conv => whnf)
    | (refine dsp ?_ ?_ <;> intro _ <;> conv => whnf)
    | (refine nsp ?_ ?_ <;> intro _ <;> conv => whnf)
    | (refine cnd_true (by assumption) ?_; conv => whnf)
    | (refine cnd_false (by assumption) ?_; conv => whnf)
    | (refine cnd_split ?_ ?_ <;> intro _ <;> conv => whnf)
    | (refine Cd.par tabOk (by kernel_rfl) (by kernel_rfl) ?_; conv => whnf)
    | rfl
    | exact True.intro
    | (refine And.intro ?_ ?_ <;> conv => whnf))
  refine loopP tabOk (fun i : Nat => i ≤ L.length)
    (fun i => ⟨[(15, iv i), (14, .own 0 (some ⟨g', 0, none⟩) N c'), (13, sb _), (12, .loc 3 0), (11, sb _), (10, .loc 2 0), (9, SV.v (.int .i64 (IntKind.wrap .i64 ((IntKind.wrap .i64 n).tmod 8 + 1)))), (7, sb true), (3, .loc 0 0)], []⟩)
    (fun i => ⟨4, [.c [iv a.cap, ents a.slots, ints a.index], .c (Fra.cs f), .c (Fra.cs ⟨g0, g1, g2, g3, g4, g5, g6, x :: r⟩), .c (Fra.cs ⟨h0, h1, h2, h3, h4, h5, h6, []⟩)], [⟨(some ⟨g', 0, none⟩), N, c', t_Entry, 9, L.map Ent.sv, false⟩]⟩)
    (fun i => L.length - i) 0 (Nat.zero_le _)
    ⟨by (repeat' constructor); first | exact congrArg (fun q => SV.own 0 _ q _) hN | (rw [hN]; rfl), rfl, ⟨by first | (rw [hN, hL]; done) | (rw [hN, hL]; simp), trivial⟩, by repeat' constructor, rfl, .inl rfl⟩ (fun _ => rfl) ?_
  intro i hi
  conv => whnf
  refine dsp ?_ ?_ <;> intro hlt <;> conv => whnf
  · have hlt' : i < L.length := by omega
    obtain ⟨y, hy⟩ : ∃ y, L[i]? = some y := ⟨_, List.getElem?_eq_getElem hlt'⟩
    have hym : y ∈ a.slots := mem y (by have := List.mem_of_getElem? hy; rw [hL] at this; simpa using this)
    obtain ⟨j, hj1, hj2, hj3⟩ := find_lk ka.dist (lk_mem ka.dist hym (named.refl y))
    have hf := c_arena_Find1 a ha ka y.val.kind y.key
    rw [hj1] at hf
    have hneg : ¬ ((j : Nat) : Int) < 0 := by omega
    have hoy := ka.ent hym
    have hal := c_Alike (oneA y) (oneA y) (one_bd hoy) (one_bd hoy)
    rw [decide_eq_true (one_alike hoy (wa y hym))] at hal
    have hone := c_one y
    generalize oneA y = oy at hal hone
    repeat' (first
      | (refine mulF ?_; conv => whnf)
      | (refine mulF2 ?_; conv => whnf)
      | (refine bltG (by first | omega | (simp only [List.length_map] at *; omega)) ?_; conv => whnf)
      | (refine ndG (by assumption) ?_; conv => whnf)
      | (refine mulG ?_; conv => whnf)
      | (refine And.intro rfl ?_; conv => whnf)
      | (refine dsT (by assumption) ?_; conv => whnf)
      | (refine dsF (by assumption) ?_; conv => whnf)
      | (refine nsT (by assumption) ?_; conv => whnf)
      | (refine nsF (by assumption) ?_; conv => whnf)
      | (refine bsT (by assumption) ?_; conv => whnf)
      | (refine bsF (by assumption) ?_; conv => whnf)
      | (refine dsp ?_ ?_ <;> intro _ <;> conv => whnf)
      | (refine nsp ?_ ?_ <;> intro _ <;> conv => whnf)
      | (refine cnd_true (by assumption) ?_; conv => whnf)
      | (refine cnd_false (by assumption) ?_; conv => whnf)
      | (refine cnd_split ?_ ?_ <;> intro _ <;> conv => whnf)
      | (refine Cd.par tabOk (by kernel_rfl) (by kernel_rfl) ?_; conv => whnf)
      | (refine Fc.use (hf) ?_ ?_; (focus ((repeat' constructor); done)); conv => whnf)
      | (refine CallQ.of (hf) ?_ ?_; (focus ((repeat' constructor); done)); conv => whnf)
      | (refine Fc.use (hone) ?_ ?_; (focus ((repeat' constructor); done)); conv => whnf)
      | (refine CallQ.of (hone) ?_ ?_; (focus ((repeat' constructor); done)); conv => whnf)
      | (refine Fc.use (hal) ?_ ?_; (focus ((repeat' constructor); done)); conv => whnf)
      | (refine CallQ.of (hal) ?_ ?_; (focus ((repeat' constructor); done)); conv => whnf)
      | rfl
      | exact True.intro
      | (refine And.intro ?_ ?_ <;> conv => whnf))
    refine ⟨i + 1, (by omega), ?_, ⟨?_, rfl, ?_, ?_, rfl, ?_⟩⟩
    · first | omega | (simp only [List.length_map] at *; omega)
    · (repeat' constructor) <;> first | (refine ivW ?_ ?_ ?_ <;> first | omega | (dsimp only; omega))
    · (repeat' (first | constructor))
    · repeat' constructor
    · first | exact .inl rfl | exact .inr ⟨by simp [blwE, blw, blwL, blwB, blwX, blwR, blw_iv, blw_ints, blw_ents, blw_ent, blw_val, blw_ar, blwL_map (blw_ent _), blwL_map (blw_iv _), sb, ss] <;> rfl, rfl, by simp [blwE, blw, blwL, blwB, blwX, blwR, blw_iv, blw_ints, blw_ents, blw_ent, blw_val, blw_ar, blwL_map (blw_ent _), blwL_map (blw_iv _), sb, ss] <;> rfl, by simp [blwE, blw, blwL, blwB, blwX, blwR, blw_iv, blw_ints, blw_ents, blw_ent, blw_val, blw_ar, blwL_map (blw_ent _), blwL_map (blw_iv _), sb, ss]⟩
  · repeat' (first
      | (refine bltG (by first | omega | (simp only [List.length_map] at *; omega)) ?_; conv => whnf)
      | (refine ndG (by assumption) ?_; conv => whnf)
      | (refine mulG ?_; conv => whnf)
      | (refine And.intro rfl ?_; conv => whnf)
      | (refine dsT (by assumption) ?_; conv => whnf)
      | (refine dsF (by assumption) ?_; conv => whnf)
      | (refine nsT (by assumption) ?_; conv => whnf)
      | (refine nsF (by assumption) ?_; conv => whnf)
      | (refine bsT (by assumption) ?_; conv => whnf)
      | (refine bsF (by assumption) ?_; conv => whnf)
      | (refine dsp ?_ ?_ <;> intro _ <;> conv => whnf)
      | (refine nsp ?_ ?_ <;> intro _ <;> conv => whnf)
      | (refine cnd_true (by assumption) ?_; conv => whnf)
      | (refine cnd_false (by assumption) ?_; conv => whnf)
      | (refine cnd_split ?_ ?_ <;> intro _ <;> conv => whnf)
      | (refine Cd.par tabOk (by kernel_rfl) (by kernel_rfl) ?_; conv => whnf)
      | (refine Fc.use ((kc rfl)) ?_ ?_; (focus ((repeat' constructor); done)); conv => whnf)
      | (refine CallQ.of ((kc rfl)) ?_ ?_; (focus ((repeat' constructor); done)); conv => whnf)
      | (refine Fc.use ((kd rfl)) ?_ ?_; (focus ((repeat' constructor); done)); conv => whnf)
      | (refine CallQ.of ((kd rfl)) ?_ ?_; (focus ((repeat' constructor); done)); conv => whnf)
      | rfl
      | exact True.intro
      | (refine And.intro ?_ ?_ <;> conv => whnf))
    all_goals first | rfl | skip
theorem bounds_3 (a : Ar) (f : Fra) (n : Int) (k : Nat) (hk8 : k ≤ 8) (hkw : SV.v (.int .i64 (IntKind.wrap .i64 ((IntKind.wrap .i64 n).tmod 8 + 1))) = iv k) (wa : a.fw) (ka : arOk a)
    (fa : Fc Tryz.prog n_ouroboroslaw08_Few [a.sv] (sb true)) (fe : Fc Tryz.prog n_ouroboroslaw08_Entries [ents f.es, iv 12] (sb true)) (ca : Fc Tryz.prog n_arena_Check [a.sv] (iv 0))
    (ha : a.bd) {g0 g1 g2 g3 g4 g5 g6 h0 h1 h2 h3 h4 h5 h6 : Int} {x : Ent} {r : List Ent} (T : Told2 a f k ⟨g0, g1, g2, g3, g4, g5, g6, []⟩ ⟨h0, h1, h2, h3, h4, h5, h6, x :: r⟩ true false) : Fc Tryz.prog n_ouroboroslaw18_ProbeBounds [a.sv, f.sv, .v (.int .u8 n)] (sb true) := by
  have bb : blwL 0 [a.sv, f.sv, .v (.int .u8 n)] = true := blwL_cons (blw_ar 0 a) (blwL_cons (blw_fra 0 f) (blwL_one rfl))
  obtain ⟨kw, kg, kc, kd, mem, lg, lh, ne, not2, one⟩ := T
  rw [← hkw] at kw kg
  have hmx : 4096 ≤ maxLen := by decide
  dsimp only at *
  have hwk : IntKind.wrap .i64 ((IntKind.wrap .i64 n).tmod 8 + 1) = k := by simpa [iv] using hkw
  have hGk : ((([] : List Ent).map Ent.sv).length : Int) ≤ IntKind.wrap .i64 ((IntKind.wrap .i64 n).tmod 8 + 1) := by rw [hwk, List.length_map]; omega
  have hHk : (((x :: r).map Ent.sv).length : Int) ≤ IntKind.wrap .i64 ((IntKind.wrap .i64 n).tmod 8 + 1) := by rw [hwk, List.length_map]; omega
  have hG : (([] : List Ent).map Ent.sv).length ≤ 4096 := by rw [List.length_map]; omega
  have hH : ((x :: r).map Ent.sv).length ≤ 4096 := by rw [List.length_map]; omega
  obtain ⟨L, hL⟩ : ∃ L, L = x :: r := ⟨_, rfl⟩
  obtain ⟨N, hN⟩ : ∃ N, N = ((x :: r).map Ent.sv).length := ⟨_, rfl⟩
  have hNL : N = L.length := by rw [hN, hL, List.length_map]
  have hpos : (0 : Int) < (((x :: r).map Ent.sv).length : Int) := by rw [List.length_map, List.length_cons]; omega
  refine Fc.of_body tabOk q_ouroboroslaw18_ProbeBounds (by kernel_rfl) (bb) (rfl) ?_
  conv => whnf
  repeat' (first
    | (refine Cd.parT tabOk (by kernel_rfl) [0, 3, 6] rfl ?_; conv => whnf)
    | (refine bltG (by first | omega | (simp only [List.length_map] at *; omega)) ?_; conv => whnf)
    | (refine ndG (by assumption) ?_; conv => whnf)
    | (refine mulG ?_; conv => whnf)
    | (refine And.intro rfl ?_; conv => whnf)
    | (refine dsT (by assumption) ?_; conv => whnf)
    | (refine dsF (by assumption) ?_; conv => whnf)
    | (refine nsT (by assumption) ?_; conv => whnf)
    | (refine nsF (by assumption) ?_; conv => whnf)
    | (refine bsT (by assumption) ?_; conv => whnf)
    | (refine bsF (by assumption) ?_; conv => whnf)
    | (refine dsp ?_ ?_ <;> intro _ <;> conv => whnf)
    | (refine nsp ?_ ?_ <;> intro _ <;> conv => whnf)
    | (refine cnd_true (by assumption) ?_; conv => whnf)
    | (refine cnd_false (by assumption) ?_; conv => whnf)
    | (refine cnd_split ?_ ?_ <;> intro _ <;> conv => whnf)
    | (refine Cd.par tabOk (by kernel_rfl) (by kernel_rfl) ?_; conv => whnf)
    | (refine Fc.use (c_works) ?_ ?_; (focus ((repeat' constructor); done)); conv => whnf)
    | (refine CallQ.of (c_works) ?_ ?_; (focus ((repeat' constructor); done)); conv => whnf)
    | (refine Fc.use (fa) ?_ ?_; (focus ((repeat' constructor); done)); conv => whnf)
    | (refine CallQ.of (fa) ?_ ?_; (focus ((repeat' constructor); done)); conv => whnf)
    | (refine Fc.use (fe) ?_ ?_; (focus ((repeat' constructor); done)); conv => whnf)
    | (refine CallQ.of (fe) ?_ ?_; (focus ((repeat' constructor); done)); conv => whnf)
    | (refine Fc.use (ca) ?_ ?_; (focus ((repeat' constructor); done)); conv => whnf)
    | (refine CallQ.of (ca) ?_ ?_; (focus ((repeat' constructor); done)); conv => whnf)
    | (refine Fc.use (kw) ?_ ?_; (focus ((repeat' constructor); done)); conv => whnf)
    | (refine CallQ.of (kw) ?_ ?_; (focus ((repeat' constructor); done)); conv => whnf)
    | (refine Fc.use (kg) ?_ ?_; (focus ((repeat' constructor); done)); conv => whnf)
    | (refine CallQ.of (kg) ?_ ?_; (focus ((repeat' constructor); done)); conv => whnf)
    | rfl
    | exact True.intro
    | (refine And.intro ?_ ?_ <;> conv => whnf))
  · exact Nat.zero_le _
  · exact Nat.zero_le _
  · exact Nat.le_trans hH hmx
  · refine Nat.le_trans (Nat.mul_le_mul_right _ hH) ?_
    decide
  intro A' c' hv
  have hA : ∃ g, A' = some ⟨g, 0, none⟩ := rowV_some hv (fun h => by cases h)
  obtain ⟨g, hg⟩ := hA
  subst hg
  conv => whnf
  repeat' (first
    | (refine bltG (by first | omega | (simp only [List.length_map] at *; omega)) ?_; conv => whnf)
    | (refine ndG (by assumption) ?_; conv => whnf)
    | (refine mulG ?_; conv => whnf)
    | (refine And.intro rfl ?_; conv => whnf)
    | (refine dsT (by assumption) ?_; conv => whnf)
    | (refine dsF (by assumption) ?_; conv => whnf)
    | (refine nsT (by assumption) ?_; conv => whnf)
    | (refine nsF (by assumption) ?_; conv => whnf)
    | (refine bsT (by assumption) ?_; conv => whnf)
    | (refine bsF (by assumption) ?_; conv => whnf)
    | (refine dsp ?_ ?_ <;> intro _ <;> conv => whnf)
    | (refine nsp ?_ ?_ <;> intro _ <;> conv => whnf)
    | (refine cnd_true (by assumption) ?_; conv => whnf)
    | (refine cnd_false (by assumption) ?_; conv => whnf)
    | (refine cnd_split ?_ ?_ <;> intro _ <;> conv => whnf)
    | (refine Cd.par tabOk (by kernel_rfl) (by kernel_rfl) ?_; conv => whnf)
    | rfl
    | exact True.intro
    | (refine And.intro ?_ ?_ <;> conv => whnf))
  refine loopP tabOk (fun i : Nat => i ≤ L.length)
    (fun i => ⟨[(15, iv i), (14, .own 0 (some ⟨g, 0, none⟩) N c'), (13, sb _), (12, .loc 3 0), (11, sb _), (10, .loc 2 0), (9, SV.v (.int .i64 (IntKind.wrap .i64 ((IntKind.wrap .i64 n).tmod 8 + 1)))), (7, sb true), (3, .loc 0 0)], []⟩)
    (fun i => ⟨4, [.c [iv a.cap, ents a.slots, ints a.index], .c (Fra.cs f), .c (Fra.cs ⟨g0, g1, g2, g3, g4, g5, g6, []⟩), .c (Fra.cs ⟨h0, h1, h2, h3, h4, h5, h6, x :: r⟩)], [⟨(some ⟨g, 0, none⟩), N, c', t_Entry, 9, L.map Ent.sv, false⟩]⟩)
    (fun i => L.length - i) 0 (Nat.zero_le _)
    ⟨by (repeat' constructor); first | exact congrArg (fun q => SV.own 0 _ q _) hN | (rw [hN]; rfl), rfl, ⟨by first | (rw [hN, hL]; done) | (rw [hN, hL]; simp), trivial⟩, by repeat' constructor, rfl, .inl rfl⟩ (fun _ => rfl) ?_
  intro i hi
  conv => whnf
  refine dsp ?_ ?_ <;> intro hlt <;> conv => whnf
  · have hlt' : i < L.length := by omega
    obtain ⟨y, hy⟩ : ∃ y, L[i]? = some y := ⟨_, List.getElem?_eq_getElem hlt'⟩
    have hym : y ∈ a.slots := mem y (by have := List.mem_of_getElem? hy; rw [hL] at this; simpa using this)
    obtain ⟨j, hj1, hj2, hj3⟩ := find_lk ka.dist (lk_mem ka.dist hym (named.refl y))
    have hf := c_arena_Find1 a ha ka y.val.kind y.key
    rw [hj1] at hf
    have hneg : ¬ ((j : Nat) : Int) < 0 := by omega
    have hoy := ka.ent hym
    have hal := c_Alike (oneA y) (oneA y) (one_bd hoy) (one_bd hoy)
    rw [decide_eq_true (one_alike hoy (wa y hym))] at hal
    have hone := c_one y
    generalize oneA y = oy at hal hone
    repeat' (first
      | (refine mulF ?_; conv => whnf)
      | (refine mulF2 ?_; conv => whnf)
      | (refine bltG (by first | omega | (simp only [List.length_map] at *; omega)) ?_; conv => whnf)
      | (refine ndG (by assumption) ?_; conv => whnf)
      | (refine mulG ?_; conv => whnf)
      | (refine And.intro rfl ?_; conv => whnf)
      | (refine dsT (by assumption) ?_; conv => whnf)
      | (refine dsF (by assumption) ?_; conv => whnf)
      | (refine nsT (by assumption) ?_; conv => whnf)
      | (refine nsF (by assumption) ?_; conv => whnf)
      | (refine bsT (by assumption) ?_; conv => whnf)
      | (refine bsF (by assumption) ?_; conv => whnf)
      | (refine dsp ?_ ?_ <;> intro _ <;> conv => whnf)
      | (refine nsp ?_ ?_ <;> intro _ <;> conv => whnf)
      | (refine cnd_true (by assumption) ?_; conv => whnf)
      | (refine cnd_false (by assumption) ?_; conv => whnf)
      | (refine cnd_split ?_ ?_ <;> intro _ <;> conv => whnf)
      | (refine Cd.par tabOk (by kernel_rfl) (by kernel_rfl) ?_; conv => whnf)
      | (refine Fc.use (hf) ?_ ?_; (focus ((repeat' constructor); done)); conv => whnf)
      | (refine CallQ.of (hf) ?_ ?_; (focus ((repeat' constructor); done)); conv => whnf)
      | (refine Fc.use (hone) ?_ ?_; (focus ((repeat' constructor); done)); conv => whnf)
      | (refine CallQ.of (hone) ?_ ?_; (focus ((repeat' constructor); done)); conv => whnf)
      | (refine Fc.use (hal) ?_ ?_; (focus ((repeat' constructor); done)); conv => whnf)
      | (refine CallQ.of (hal) ?_ ?_; (focus ((repeat' constructor); done)); conv => whnf)
      | rfl
      | exact True.intro
      | (refine And.intro ?_ ?_ <;> conv => whnf))
    refine ⟨i + 1, (by omega), ?_, ⟨?_, rfl, ?_, ?_, rfl, ?_⟩⟩
    · first | omega | (simp only [List.length_map] at *; omega)
    · (repeat' constructor) <;> first | (refine ivW ?_ ?_ ?_ <;> first | omega | (dsimp only; omega))
    · (repeat' (first | constructor))
    · repeat' constructor
    · first | exact .inl rfl | exact .inr ⟨by simp [blwE, blw, blwL, blwB, blwX, blwR, blw_iv, blw_ints, blw_ents, blw_ent, blw_val, blw_ar, blwL_map (blw_ent _), blwL_map (blw_iv _), sb, ss] <;> rfl, rfl, by simp [blwE, blw, blwL, blwB, blwX, blwR, blw_iv, blw_ints, blw_ents, blw_ent, blw_val, blw_ar, blwL_map (blw_ent _), blwL_map (blw_iv _), sb, ss] <;> rfl, by simp [blwE, blw, blwL, blwB, blwX, blwR, blw_iv, blw_ints, blw_ents, blw_ent, blw_val, blw_ar, blwL_map (blw_ent _), blwL_map (blw_iv _), sb, ss]⟩
  · repeat' (first
      | (refine bltG (by first | omega | (simp only [List.length_map] at *; omega)) ?_; conv => whnf)
      | (refine ndG (by assumption) ?_; conv => whnf)
      | (refine mulG ?_; conv => whnf)
      | (refine And.intro rfl ?_; conv => whnf)
      | (refine dsT (by assumption) ?_; conv => whnf)
      | (refine dsF (by assumption) ?_; conv => whnf)
      | (refine nsT (by assumption) ?_; conv => whnf)
      | (refine nsF (by assumption) ?_; conv => whnf)
      | (refine bsT (by assumption) ?_; conv => whnf)
      | (refine bsF (by assumption) ?_; conv => whnf)
      | (refine dsp ?_ ?_ <;> intro _ <;> conv => whnf)
      | (refine nsp ?_ ?_ <;> intro _ <;> conv => whnf)
      | (refine cnd_true (by assumption) ?_; conv => whnf)
      | (refine cnd_false (by assumption) ?_; conv => whnf)
      | (refine cnd_split ?_ ?_ <;> intro _ <;> conv => whnf)
      | (refine Cd.par tabOk (by kernel_rfl) (by kernel_rfl) ?_; conv => whnf)
      | (refine Fc.use ((kc rfl)) ?_ ?_; (focus ((repeat' constructor); done)); conv => whnf)
      | (refine CallQ.of ((kc rfl)) ?_ ?_; (focus ((repeat' constructor); done)); conv => whnf)
      | (refine Fc.use ((kd rfl)) ?_ ?_; (focus ((repeat' constructor); done)); conv => whnf)
      | (refine CallQ.of ((kd rfl)) ?_ ?_; (focus ((repeat' constructor); done)); conv => whnf)
      | rfl
      | exact True.intro
      | (refine And.intro ?_ ?_ <;> conv => whnf))
    all_goals first | rfl | skip
theorem bounds_4 (a : Ar) (f : Fra) (n : Int) (k : Nat) (hk8 : k ≤ 8) (hkw : SV.v (.int .i64 (IntKind.wrap .i64 ((IntKind.wrap .i64 n).tmod 8 + 1))) = iv k) (wa : a.fw) (ka : arOk a)
    (fa : Fc Tryz.prog n_ouroboroslaw08_Few [a.sv] (sb true)) (fe : Fc Tryz.prog n_ouroboroslaw08_Entries [ents f.es, iv 12] (sb true)) (ca : Fc Tryz.prog n_arena_Check [a.sv] (iv 0))
    (ha : a.bd) {g0 g1 g2 g3 g4 g5 g6 h0 h1 h2 h3 h4 h5 h6 : Int} {x : Ent} {r : List Ent} (T : Told2 a f k ⟨g0, g1, g2, g3, g4, g5, g6, []⟩ ⟨h0, h1, h2, h3, h4, h5, h6, x :: r⟩ false true) : Fc Tryz.prog n_ouroboroslaw18_ProbeBounds [a.sv, f.sv, .v (.int .u8 n)] (sb true) := by
  have bb : blwL 0 [a.sv, f.sv, .v (.int .u8 n)] = true := blwL_cons (blw_ar 0 a) (blwL_cons (blw_fra 0 f) (blwL_one rfl))
  obtain ⟨kw, kg, kc, kd, mem, lg, lh, ne, not2, one⟩ := T
  rw [← hkw] at kw kg
  have hmx : 4096 ≤ maxLen := by decide
  dsimp only at *
  have hwk : IntKind.wrap .i64 ((IntKind.wrap .i64 n).tmod 8 + 1) = k := by simpa [iv] using hkw
  have hGk : ((([] : List Ent).map Ent.sv).length : Int) ≤ IntKind.wrap .i64 ((IntKind.wrap .i64 n).tmod 8 + 1) := by rw [hwk, List.length_map]; omega
  have hHk : (((x :: r).map Ent.sv).length : Int) ≤ IntKind.wrap .i64 ((IntKind.wrap .i64 n).tmod 8 + 1) := by rw [hwk, List.length_map]; omega
  have hG : (([] : List Ent).map Ent.sv).length ≤ 4096 := by rw [List.length_map]; omega
  have hH : ((x :: r).map Ent.sv).length ≤ 4096 := by rw [List.length_map]; omega
  obtain ⟨L, hL⟩ : ∃ L, L = x :: r := ⟨_, rfl⟩
  obtain ⟨N, hN⟩ : ∃ N, N = ((x :: r).map Ent.sv).length := ⟨_, rfl⟩
  have hNL : N = L.length := by rw [hN, hL, List.length_map]
  have hpos : (0 : Int) < (((x :: r).map Ent.sv).length : Int) := by rw [List.length_map, List.length_cons]; omega
  refine Fc.of_body tabOk q_ouroboroslaw18_ProbeBounds (by kernel_rfl) (bb) (rfl) ?_
  conv => whnf
  repeat' (first
    | (refine Cd.parT tabOk (by kernel_rfl) [0, 3, 6] rfl ?_; conv => whnf)
    | (refine bltG (by first | omega | (simp only [List.length_map] at *; omega)) ?_; conv => whnf)
    | (refine ndG (by assumption) ?_; conv => whnf)
    | (refine mulG ?_; conv => whnf)
    | (refine And.intro rfl ?_; conv => whnf)
    | (refine dsT (by assumption) ?_; conv => whnf)
    | (refine dsF (by assumption) ?_; conv => whnf)
    | (refine nsT (by assumption) ?_; conv => whnf)
    | (refine nsF (by assumption) ?_; conv => whnf)
    | (refine bsT (by assumption) ?_; conv => whnf)
    | (refine bsF (by assumption) ?_; conv => whnf)
    | (refine dsp ?_ ?_ <;> intro _ <;> conv => whnf)
    | (refine nsp ?_ ?_ <;> intro _ <;> conv => whnf)
    | (refine cnd_true (by assumption) ?_; conv => whnf)
    | (refine cnd_false (by assumption) ?_; conv => whnf)
    | (refine cnd_split ?_ ?_ <;> intro _ <;> conv => whnf)
    | (refine Cd.par tabOk (by kernel_rfl) (by kernel_rfl) ?_; conv => whnf)
    | (refine Fc.use (c_works) ?_ ?_; (focus ((repeat' constructor); done)); conv => whnf)
    | (refine CallQ.of (c_works) ?_ ?_; (focus ((repeat' constructor); done)); conv => whnf)
    | (refine Fc.use (fa) ?_ ?_; (focus ((repeat' constructor); done)); conv => whnf)
    | (refine CallQ.of (fa) ?_ ?_; (focus ((repeat' constructor); done)); conv => whnf)
    | (refine Fc.use (fe) ?_ ?_; (focus ((repeat' constructor); done)); conv => whnf)
    | (refine CallQ.of (fe) ?_ ?_; (focus ((repeat' constructor); done)); conv => whnf)
    | (refine Fc.use (ca) ?_ ?_; (focus ((repeat' constructor); done)); conv => whnf)
    | (refine CallQ.of (ca) ?_ ?_; (focus ((repeat' constructor); done)); conv => whnf)
    | (refine Fc.use (kw) ?_ ?_; (focus ((repeat' constructor); done)); conv => whnf)
    | (refine CallQ.of (kw) ?_ ?_; (focus ((repeat' constructor); done)); conv => whnf)
    | (refine Fc.use (kg) ?_ ?_; (focus ((repeat' constructor); done)); conv => whnf)
    | (refine CallQ.of (kg) ?_ ?_; (focus ((repeat' constructor); done)); conv => whnf)
    | rfl
    | exact True.intro
    | (refine And.intro ?_ ?_ <;> conv => whnf))
  · exact Nat.zero_le _
  · exact Nat.zero_le _
  · exact Nat.le_trans hH hmx
  · refine Nat.le_trans (Nat.mul_le_mul_right _ hH) ?_
    decide
  intro A' c' hv
  have hA : ∃ g, A' = some ⟨g, 0, none⟩ := rowV_some hv (fun h => by cases h)
  obtain ⟨g, hg⟩ := hA
  subst hg
  conv => whnf
  repeat' (first
    | (refine bltG (by first | omega | (simp only [List.length_map] at *; omega)) ?_; conv => whnf)
    | (refine ndG (by assumption) ?_; conv => whnf)
    | (refine mulG ?_; conv => whnf)
    | (refine And.intro rfl ?_; conv => whnf)
    | (refine dsT (by assumption) ?_; conv => whnf)
    | (refine dsF (by assumption) ?_; conv => whnf)
    | (refine nsT (by assumption) ?_; conv => whnf)
    | (refine nsF (by assumption) ?_; conv => whnf)
    | (refine bsT (by assumption) ?_; conv => whnf)
    | (refine bsF (by assumption) ?_; conv => whnf)
    | (refine dsp ?_ ?_ <;> intro _ <;> conv => whnf)
    | (refine nsp ?_ ?_ <;> intro _ <;> conv => whnf)
    | (refine cnd_true (by assumption) ?_; conv => whnf)
    | (refine cnd_false (by assumption) ?_; conv => whnf)
    | (refine cnd_split ?_ ?_ <;> intro _ <;> conv => whnf)
    | (refine Cd.par tabOk (by kernel_rfl) (by kernel_rfl) ?_; conv => whnf)
    | rfl
    | exact True.intro
    | (refine And.intro ?_ ?_ <;> conv => whnf))
  refine loopP tabOk (fun i : Nat => i ≤ L.length)
    (fun i => ⟨[(15, iv i), (14, .own 0 (some ⟨g, 0, none⟩) N c'), (13, sb _), (12, .loc 3 0), (11, sb _), (10, .loc 2 0), (9, SV.v (.int .i64 (IntKind.wrap .i64 ((IntKind.wrap .i64 n).tmod 8 + 1)))), (7, sb true), (3, .loc 0 0)], []⟩)
    (fun i => ⟨4, [.c [iv a.cap, ents a.slots, ints a.index], .c (Fra.cs f), .c (Fra.cs ⟨g0, g1, g2, g3, g4, g5, g6, []⟩), .c (Fra.cs ⟨h0, h1, h2, h3, h4, h5, h6, x :: r⟩)], [⟨(some ⟨g, 0, none⟩), N, c', t_Entry, 9, L.map Ent.sv, false⟩]⟩)
    (fun i => L.length - i) 0 (Nat.zero_le _)
    ⟨by (repeat' constructor); first | exact congrArg (fun q => SV.own 0 _ q _) hN | (rw [hN]; rfl), rfl, ⟨by first | (rw [hN, hL]; done) | (rw [hN, hL]; simp), trivial⟩, by repeat' constructor, rfl, .inl rfl⟩ (fun _ => rfl) ?_
  intro i hi
  conv => whnf
  refine dsp ?_ ?_ <;> intro hlt <;> conv => whnf
  · have hlt' : i < L.length := by omega
    obtain ⟨y, hy⟩ : ∃ y, L[i]? = some y := ⟨_, List.getElem?_eq_getElem hlt'⟩
    have hym : y ∈ a.slots := mem y (by have := List.mem_of_getElem? hy; rw [hL] at this; simpa using this)
    obtain ⟨j, hj1, hj2, hj3⟩ := find_lk ka.dist (lk_mem ka.dist hym (named.refl y))
    have hf := c_arena_Find1 a ha ka y.val.kind y.key
    rw [hj1] at hf
    have hneg : ¬ ((j : Nat) : Int) < 0 := by omega
    have hoy := ka.ent hym
    have hal := c_Alike (oneA y) (oneA y) (one_bd hoy) (one_bd hoy)
    rw [decide_eq_true (one_alike hoy (wa y hym))] at hal
    have hone := c_one y
    generalize oneA y = oy at hal hone
    repeat' (first
      | (refine mulF ?_; conv => whnf)
      | (refine mulF2 ?_; conv => whnf)
      | (refine bltG (by first | omega | (simp only [List.length_map] at *; omega)) ?_; conv => whnf)
      | (refine ndG (by assumption) ?_; conv => whnf)
      | (refine mulG ?_; conv => whnf)
      | (refine And.intro rfl ?_; conv => whnf)
      | (refine dsT (by assumption) ?_; conv => whnf)
      | (refine dsF (by assumption) ?_; conv => whnf)
      | (refine nsT (by assumption) ?_; conv => whnf)
      | (refine nsF (by assumption) ?_; conv => whnf)
      | (refine bsT (by assumption) ?_; conv => whnf)
      | (refine bsF (by assumption) ?_; conv => whnf)
      | (refine dsp ?_ ?_ <;> intro _ <;> conv => whnf)
      | (refine nsp ?_ ?_ <;> intro _ <;> conv => whnf)
      | (refine cnd_true (by assumption) ?_; conv => whnf)
      | (refine cnd_false (by assumption) ?_; conv => whnf)
      | (refine cnd_split ?_ ?_ <;> intro _ <;> conv => whnf)
      | (refine Cd.par tabOk (by kernel_rfl) (by kernel_rfl) ?_; conv => whnf)
      | (refine Fc.use (hf) ?_ ?_; (focus ((repeat' constructor); done)); conv => whnf)
      | (refine CallQ.of (hf) ?_ ?_; (focus ((repeat' constructor); done)); conv => whnf)
      | (refine Fc.use (hone) ?_ ?_; (focus ((repeat' constructor); done)); conv => whnf)
      | (refine CallQ.of (hone) ?_ ?_; (focus ((repeat' constructor); done)); conv => whnf)
      | (refine Fc.use (hal) ?_ ?_; (focus ((repeat' constructor); done)); conv => whnf)
      | (refine CallQ.of (hal) ?_ ?_; (focus ((repeat' constructor); done)); conv => whnf)
      | rfl
      | exact True.intro
      | (refine And.intro ?_ ?_ <;> conv => whnf))
    refine ⟨i + 1, (by omega), ?_, ⟨?_, rfl, ?_, ?_, rfl, ?_⟩⟩
    · first | omega | (simp only [List.length_map] at *; omega)
    · (repeat' constructor) <;> first | (refine ivW ?_ ?_ ?_ <;> first | omega | (dsimp only; omega))
    · (repeat' (first | constructor))
    · repeat' constructor
    · first | exact .inl rfl | exact .inr ⟨by simp [blwE, blw, blwL, blwB, blwX, blwR, blw_iv, blw_ints, blw_ents, blw_ent, blw_val, blw_ar, blwL_map (blw_ent _), blwL_map (blw_iv _), sb, ss] <;> rfl, rfl, by simp [blwE, blw, blwL, blwB, blwX, blwR, blw_iv, blw_ints, blw_ents, blw_ent, blw_val, blw_ar, blwL_map (blw_ent _), blwL_map (blw_iv _), sb, ss] <;> rfl, by simp [blwE, blw, blwL, blwB, blwX, blwR, blw_iv, blw_ints, blw_ents, blw_ent, blw_val, blw_ar, blwL_map (blw_ent _), blwL_map (blw_iv _), sb, ss]⟩
  · repeat' (first
      | (refine bltG (by first | omega | (simp only [List.length_map] at *; omega)) ?_; conv => whnf)
      | (refine ndG (by assumption) ?_; conv => whnf)
      | (refine mulG ?_; conv => whnf)
      | (refine And.intro rfl ?_; conv => whnf)
      | (refine dsT (by assumption) ?_; conv => whnf)
      | (refine dsF (by assumption) ?_; conv => whnf)
      | (refine nsT (by assumption) ?_; conv => whnf)
      | (refine nsF (by assumption) ?_; conv => whnf)
      | (refine bsT (by assumption) ?_; conv => whnf)
      | (refine bsF (by assumption) ?_; conv => whnf)
      | (refine dsp ?_ ?_ <;> intro _ <;> conv => whnf)
      | (refine nsp ?_ ?_ <;> intro _ <;> conv => whnf)
      | (refine cnd_true (by assumption) ?_; conv => whnf)
      | (refine cnd_false (by assumption) ?_; conv => whnf)
      | (refine cnd_split ?_ ?_ <;> intro _ <;> conv => whnf)
      | (refine Cd.par tabOk (by kernel_rfl) (by kernel_rfl) ?_; conv => whnf)
      | (refine Fc.use ((kc rfl)) ?_ ?_; (focus ((repeat' constructor); done)); conv => whnf)
      | (refine CallQ.of ((kc rfl)) ?_ ?_; (focus ((repeat' constructor); done)); conv => whnf)
      | (refine Fc.use ((kd rfl)) ?_ ?_; (focus ((repeat' constructor); done)); conv => whnf)
      | (refine CallQ.of ((kd rfl)) ?_ ?_; (focus ((repeat' constructor); done)); conv => whnf)
      | rfl
      | exact True.intro
      | (refine And.intro ?_ ?_ <;> conv => whnf))
    all_goals first | rfl | skip
theorem bounds_5 (a : Ar) (f : Fra) (n : Int) (k : Nat) (hk8 : k ≤ 8) (hkw : SV.v (.int .i64 (IntKind.wrap .i64 ((IntKind.wrap .i64 n).tmod 8 + 1))) = iv k) (wa : a.fw) (ka : arOk a)
    (fa : Fc Tryz.prog n_ouroboroslaw08_Few [a.sv] (sb true)) (fe : Fc Tryz.prog n_ouroboroslaw08_Entries [ents f.es, iv 12] (sb true)) (ca : Fc Tryz.prog n_arena_Check [a.sv] (iv 0))
    (ha : a.bd) {g0 g1 g2 g3 g4 g5 g6 h0 h1 h2 h3 h4 h5 h6 : Int} {x : Ent} {r : List Ent} (T : Told2 a f k ⟨g0, g1, g2, g3, g4, g5, g6, []⟩ ⟨h0, h1, h2, h3, h4, h5, h6, x :: r⟩ false false) : Fc Tryz.prog n_ouroboroslaw18_ProbeBounds [a.sv, f.sv, .v (.int .u8 n)] (sb true) := by
  have bb : blwL 0 [a.sv, f.sv, .v (.int .u8 n)] = true := blwL_cons (blw_ar 0 a) (blwL_cons (blw_fra 0 f) (blwL_one rfl))
  obtain ⟨kw, kg, kc, kd, mem, lg, lh, ne, not2, one⟩ := T
  rw [← hkw] at kw kg
  have hmx : 4096 ≤ maxLen := by decide
  dsimp only at *
  have hwk : IntKind.wrap .i64 ((IntKind.wrap .i64 n).tmod 8 + 1) = k := by simpa [iv] using hkw
  have hGk : ((([] : List Ent).map Ent.sv).length : Int) ≤ IntKind.wrap .i64 ((IntKind.wrap .i64 n).tmod 8 + 1) := by rw [hwk, List.length_map]; omega
  have hHk : (((x :: r).map Ent.sv).length : Int) ≤ IntKind.wrap .i64 ((IntKind.wrap .i64 n).tmod 8 + 1) := by rw [hwk, List.length_map]; omega
  have hG : (([] : List Ent).map Ent.sv).length ≤ 4096 := by rw [List.length_map]; omega
  have hH : ((x :: r).map Ent.sv).length ≤ 4096 := by rw [List.length_map]; omega
  obtain ⟨L, hL⟩ : ∃ L, L = x :: r := ⟨_, rfl⟩
  obtain ⟨N, hN⟩ : ∃ N, N = ((x :: r).map Ent.sv).length := ⟨_, rfl⟩
  have hNL : N = L.length := by rw [hN, hL, List.length_map]
  have hpos : (0 : Int) < (((x :: r).map Ent.sv).length : Int) := by rw [List.length_map, List.length_cons]; omega
  refine Fc.of_body tabOk q_ouroboroslaw18_ProbeBounds (by kernel_rfl) (bb) (rfl) ?_
  conv => whnf
  repeat' (first
    | (refine Cd.parT tabOk (by kernel_rfl) [0, 3, 6] rfl ?_; conv => whnf)
    | (refine bltG (by first | omega | (simp only [List.length_map] at *; omega)) ?_; conv => whnf)
    | (refine ndG (by assumption) ?_; conv => whnf)
    | (refine mulG ?_; conv => whnf)
    | (refine And.intro rfl ?_; conv => whnf)
    | (refine dsT (by assumption) ?_; conv => whnf)
    | (refine dsF (by assumption) ?_; conv => whnf)
    | (refine nsT (by assumption) ?_; conv => whnf)
    | (refine nsF (by assumption) ?_; conv => whnf)
    | (refine bsT (by assumption) ?_; conv => whnf)
    | (refine bsF (by assumption) ?_; conv => whnf)
    | (refine dsp ?_ ?_ <;> intro _ <;> conv => whnf)
    | (refine nsp ?_ ?_ <;> intro _ <;> conv => whnf)
    | (refine cnd_true (by assumption) ?_; conv => whnf)
    | (refine cnd_false (by assumption) ?_; conv => whnf)
    | (refine cnd_split ?_ ?_ <;> intro _ <;> conv => whnf)
    | (refine Cd.par tabOk (by kernel_rfl) (by kernel_rfl) ?_; conv => whnf)
    | (refine Fc.use (c_works) ?_ ?_; (focus ((repeat' constructor); done)); conv => whnf)
    | (refine CallQ.of (c_works) ?_ ?_; (focus ((repeat' constructor); done)); conv => whnf)
    | (refine Fc.use (fa) ?_ ?_; (focus ((repeat' constructor); done)); conv => whnf)
    | (refine CallQ.of (fa) ?_ ?_; (focus ((repeat' constructor); done)); conv => whnf)
    | (refine Fc.use (fe) ?_ ?_; (focus ((repeat' constructor); done)); conv => whnf)
    | (refine CallQ.of (fe) ?_ ?_; (focus ((repeat' constructor); done)); conv => whnf)
    | (refine Fc.use (ca) ?_ ?_; (focus ((repeat' constructor); done)); conv => whnf)
    | (refine CallQ.of (ca) ?_ ?_; (focus ((repeat' constructor); done)); conv => whnf)
    | (refine Fc.use (kw) ?_ ?_; (focus ((repeat' constructor); done)); conv => whnf)
    | (refine CallQ.of (kw) ?_ ?_; (focus ((repeat' constructor); done)); conv => whnf)
    | (refine Fc.use (kg) ?_ ?_; (focus ((repeat' constructor); done)); conv => whnf)
    | (refine CallQ.of (kg) ?_ ?_; (focus ((repeat' constructor); done)); conv => whnf)
    | rfl
    | exact True.intro
    | (refine And.intro ?_ ?_ <;> conv => whnf))
  · exact Nat.zero_le _
  · exact Nat.zero_le _
  · exact Nat.le_trans hH hmx
  · refine Nat.le_trans (Nat.mul_le_mul_right _ hH) ?_
    decide
  intro A' c' hv
  have hA : ∃ g, A' = some ⟨g, 0, none⟩ := rowV_some hv (fun h => by cases h)
  obtain ⟨g, hg⟩ := hA
  subst hg
  conv => whnf
  repeat' (first
    | (refine bltG (by first | omega | (simp only [List.length_map] at *; omega)) ?_; conv => whnf)
    | (refine ndG (by assumption) ?_; conv => whnf)
    | (refine mulG ?_; conv => whnf)
    | (refine And.intro rfl ?_; conv => whnf)
    | (refine dsT (by assumption) ?_; conv => whnf)
    | (refine dsF (by assumption) ?_; conv => whnf)
    | (refine nsT (by assumption) ?_; conv => whnf)
    | (refine nsF (by assumption) ?_; conv => whnf)
    | (refine bsT (by assumption) ?_; conv => whnf)
    | (refine bsF (by assumption) ?_; conv => whnf)
    | (refine dsp ?_ ?_ <;> intro _ <;> conv => whnf)
    | (refine nsp ?_ ?_ <;> intro _ <;> conv => whnf)
    | (refine cnd_true (by assumption) ?_; conv => whnf)
    | (refine cnd_false (by assumption) ?_; conv => whnf)
    | (refine cnd_split ?_ ?_ <;> intro _ <;> conv => whnf)
    | (refine Cd.par tabOk (by kernel_rfl) (by kernel_rfl) ?_; conv => whnf)
    | rfl
    | exact True.intro
    | (refine And.intro ?_ ?_ <;> conv => whnf))
  refine loopP tabOk (fun i : Nat => i ≤ L.length)
    (fun i => ⟨[(15, iv i), (14, .own 0 (some ⟨g, 0, none⟩) N c'), (13, sb _), (12, .loc 3 0), (11, sb _), (10, .loc 2 0), (9, SV.v (.int .i64 (IntKind.wrap .i64 ((IntKind.wrap .i64 n).tmod 8 + 1)))), (7, sb true), (3, .loc 0 0)], []⟩)
    (fun i => ⟨4, [.c [iv a.cap, ents a.slots, ints a.index], .c (Fra.cs f), .c (Fra.cs ⟨g0, g1, g2, g3, g4, g5, g6, []⟩), .c (Fra.cs ⟨h0, h1, h2, h3, h4, h5, h6, x :: r⟩)], [⟨(some ⟨g, 0, none⟩), N, c', t_Entry, 9, L.map Ent.sv, false⟩]⟩)
    (fun i => L.length - i) 0 (Nat.zero_le _)
    ⟨by (repeat' constructor); first | exact congrArg (fun q => SV.own 0 _ q _) hN | (rw [hN]; rfl), rfl, ⟨by first | (rw [hN, hL]; done) | (rw [hN, hL]; simp), trivial⟩, by repeat' constructor, rfl, .inl rfl⟩ (fun _ => rfl) ?_
  intro i hi
  conv => whnf
  refine dsp ?_ ?_ <;> intro hlt <;> conv => whnf
  · have hlt' : i < L.length := by omega
    obtain ⟨y, hy⟩ : ∃ y, L[i]? = some y := ⟨_, List.getElem?_eq_getElem hlt'⟩
    have hym : y ∈ a.slots := mem y (by have := List.mem_of_getElem? hy; rw [hL] at this; simpa using this)
    obtain ⟨j, hj1, hj2, hj3⟩ := find_lk ka.dist (lk_mem ka.dist hym (named.refl y))
    have hf := c_arena_Find1 a ha ka y.val.kind y.key
    rw [hj1] at hf
    have hneg : ¬ ((j : Nat) : Int) < 0 := by omega
    have hoy := ka.ent hym
    have hal := c_Alike (oneA y) (oneA y) (one_bd hoy) (one_bd hoy)
    rw [decide_eq_true (one_alike hoy (wa y hym))] at hal
    have hone := c_one y
    generalize oneA y = oy at hal hone
    repeat' (first
      | (refine mulF ?_; conv => whnf)
      | (refine mulF2 ?_; conv => whnf)
      | (refine bltG (by first | omega | (simp only [List.length_map] at *; omega)) ?_; conv => whnf)
      | (refine ndG (by assumption) ?_; conv => whnf)
      | (refine mulG ?_; conv => whnf)
      | (refine And.intro rfl ?_; conv => whnf)
      | (refine dsT (by assumption) ?_; conv => whnf)
      | (refine dsF (by assumption) ?_; conv => whnf)
      | (refine nsT (by assumption) ?_; conv => whnf)
      | (refine nsF (by assumption) ?_; conv => whnf)
      | (refine bsT (by assumption) ?_; conv => whnf)
      | (refine bsF (by assumption) ?_; conv => whnf)
      | (refine dsp ?_ ?_ <;> intro _ <;> conv => whnf)
      | (refine nsp ?_ ?_ <;> intro _ <;> conv => whnf)
      | (refine cnd_true (by assumption) ?_; conv => whnf)
      | (refine cnd_false (by assumption) ?_; conv => whnf)
      | (refine cnd_split ?_ ?_ <;> intro _ <;> conv => whnf)
      | (refine Cd.par tabOk (by kernel_rfl) (by kernel_rfl) ?_; conv => whnf)
      | (refine Fc.use (hf) ?_ ?_; (focus ((repeat' constructor); done)); conv => whnf)
      | (refine CallQ.of (hf) ?_ ?_; (focus ((repeat' constructor); done)); conv => whnf)
      | (refine Fc.use (hone) ?_ ?_; (focus ((repeat' constructor); done)); conv => whnf)
      | (refine CallQ.of (hone) ?_ ?_; (focus ((repeat' constructor); done)); conv => whnf)
      | (refine Fc.use (hal) ?_ ?_; (focus ((repeat' constructor); done)); conv => whnf)
      | (refine CallQ.of (hal) ?_ ?_; (focus ((repeat' constructor); done)); conv => whnf)
      | rfl
      | exact True.intro
      | (refine And.intro ?_ ?_ <;> conv => whnf))
    refine ⟨i + 1, (by omega), ?_, ⟨?_, rfl, ?_, ?_, rfl, ?_⟩⟩
    · first | omega | (simp only [List.length_map] at *; omega)
    · (repeat' constructor) <;> first | (refine ivW ?_ ?_ ?_ <;> first | omega | (dsimp only; omega))
    · (repeat' (first | constructor))
    · repeat' constructor
    · first | exact .inl rfl | exact .inr ⟨by simp [blwE, blw, blwL, blwB, blwX, blwR, blw_iv, blw_ints, blw_ents, blw_ent, blw_val, blw_ar, blwL_map (blw_ent _), blwL_map (blw_iv _), sb, ss] <;> rfl, rfl, by simp [blwE, blw, blwL, blwB, blwX, blwR, blw_iv, blw_ints, blw_ents, blw_ent, blw_val, blw_ar, blwL_map (blw_ent _), blwL_map (blw_iv _), sb, ss] <;> rfl, by simp [blwE, blw, blwL, blwB, blwX, blwR, blw_iv, blw_ints, blw_ents, blw_ent, blw_val, blw_ar, blwL_map (blw_ent _), blwL_map (blw_iv _), sb, ss]⟩
  · repeat' (first
      | (refine bltG (by first | omega | (simp only [List.length_map] at *; omega)) ?_; conv => whnf)
      | (refine ndG (by assumption) ?_; conv => whnf)
      | (refine mulG ?_; conv => whnf)
      | (refine And.intro rfl ?_; conv => whnf)
      | (refine dsT (by assumption) ?_; conv => whnf)
      | (refine dsF (by assumption) ?_; conv => whnf)
      | (refine nsT (by assumption) ?_; conv => whnf)
      | (refine nsF (by assumption) ?_; conv => whnf)
      | (refine bsT (by assumption) ?_; conv => whnf)
      | (refine bsF (by assumption) ?_; conv => whnf)
      | (refine dsp ?_ ?_ <;> intro _ <;> conv => whnf)
      | (refine nsp ?_ ?_ <;> intro _ <;> conv => whnf)
      | (refine cnd_true (by assumption) ?_; conv => whnf)
      | (refine cnd_false (by assumption) ?_; conv => whnf)
      | (refine cnd_split ?_ ?_ <;> intro _ <;> conv => whnf)
      | (refine Cd.par tabOk (by kernel_rfl) (by kernel_rfl) ?_; conv => whnf)
      | (refine Fc.use ((kc rfl)) ?_ ?_; (focus ((repeat' constructor); done)); conv => whnf)
      | (refine CallQ.of ((kc rfl)) ?_ ?_; (focus ((repeat' constructor); done)); conv => whnf)
      | (refine Fc.use ((kd rfl)) ?_ ?_; (focus ((repeat' constructor); done)); conv => whnf)
      | (refine CallQ.of ((kd rfl)) ?_ ?_; (focus ((repeat' constructor); done)); conv => whnf)
      | rfl
      | exact True.intro
      | (refine And.intro ?_ ?_ <;> conv => whnf))
    all_goals first | rfl | skip
theorem bounds_6 (a : Ar) (f : Fra) (n : Int) (k : Nat) (hk8 : k ≤ 8) (hkw : SV.v (.int .i64 (IntKind.wrap .i64 ((IntKind.wrap .i64 n).tmod 8 + 1))) = iv k) (wa : a.fw) (ka : arOk a)
    (fa : Fc Tryz.prog n_ouroboroslaw08_Few [a.sv] (sb true)) (fe : Fc Tryz.prog n_ouroboroslaw08_Entries [ents f.es, iv 12] (sb true)) (ca : Fc Tryz.prog n_arena_Check [a.sv] (iv 0))
    (ha : a.bd) {g0 g1 g2 g3 g4 g5 g6 h0 h1 h2 h3 h4 h5 h6 : Int} (T : Told2 a f k ⟨g0, g1, g2, g3, g4, g5, g6, []⟩ ⟨h0, h1, h2, h3, h4, h5, h6, []⟩ true false) : Fc Tryz.prog n_ouroboroslaw18_ProbeBounds [a.sv, f.sv, .v (.int .u8 n)] (sb true) := by
  have bb : blwL 0 [a.sv, f.sv, .v (.int .u8 n)] = true := blwL_cons (blw_ar 0 a) (blwL_cons (blw_fra 0 f) (blwL_one rfl))
  obtain ⟨kw, kg, kc, kd, mem, lg, lh, ne, not2, one⟩ := T
  rw [← hkw] at kw kg
  have hmx : 4096 ≤ maxLen := by decide
  dsimp only at *
  have hwk : IntKind.wrap .i64 ((IntKind.wrap .i64 n).tmod 8 + 1) = k := by simpa [iv] using hkw
  have hGk : ((([] : List Ent).map Ent.sv).length : Int) ≤ IntKind.wrap .i64 ((IntKind.wrap .i64 n).tmod 8 + 1) := by rw [hwk, List.length_map]; omega
  have hHk : ((([] : List Ent).map Ent.sv).length : Int) ≤ IntKind.wrap .i64 ((IntKind.wrap .i64 n).tmod 8 + 1) := by rw [hwk, List.length_map]; omega
  have hG : (([] : List Ent).map Ent.sv).length ≤ 4096 := by rw [List.length_map]; omega
  have hH : (([] : List Ent).map Ent.sv).length ≤ 4096 := by rw [List.length_map]; omega
  refine Fc.of_body tabOk q_ouroboroslaw18_ProbeBounds (by kernel_rfl) (bb) (rfl) ?_
  conv => whnf
  repeat' (first
    | (refine Cd.parT tabOk (by kernel_rfl) [0, 3, 6] rfl ?_; conv => whnf)
    | (refine bltG (by first | omega | (simp only [List.length_map] at *; omega)) ?_; conv => whnf)
    | (refine ndG (by assumption) ?_; conv => whnf)
    | (refine mulG ?_; conv => whnf)
    | (refine And.intro rfl ?_; conv => whnf)
    | (refine dsT (by assumption) ?_; conv => whnf)
    | (refine dsF (by assumption) ?_; conv => whnf)
    | (refine nsT (by assumption) ?_; conv => whnf)
    | (refine nsF (by assumption) ?_; conv => whnf)
    | (refine bsT (by assumption) ?_; conv => whnf)
    | (refine bsF (by assumption) ?_; conv => whnf)
    | (refine dsp ?_ ?_ <;> intro _ <;> conv => whnf)
    | (refine nsp ?_ ?_ <;> intro _ <;> conv => whnf)
    | (refine cnd_true (by assumption) ?_; conv => whnf)
    | (refine cnd_false (by assumption) ?_; conv => whnf)
    | (refine cnd_split ?_ ?_ <;> intro _ <;> conv => whnf)
    | (refine Cd.par tabOk (by kernel_rfl) (by kernel_rfl) ?_; conv => whnf)
    | (refine Fc.use (c_works) ?_ ?_; (focus ((repeat' constructor); done)); conv => whnf)
    | (refine CallQ.of (c_works) ?_ ?_; (focus ((repeat' constructor); done)); conv => whnf)
    | (refine Fc.use (fa) ?_ ?_; (focus ((repeat' constructor); done)); conv => whnf)
    | (refine CallQ.of (fa) ?_ ?_; (focus ((repeat' constructor); done)); conv => whnf)
    | (refine Fc.use (fe) ?_ ?_; (focus ((repeat' constructor); done)); conv => whnf)
    | (refine CallQ.of (fe) ?_ ?_; (focus ((repeat' constructor); done)); conv => whnf)
    | (refine Fc.use (ca) ?_ ?_; (focus ((repeat' constructor); done)); conv => whnf)
    | (refine CallQ.of (ca) ?_ ?_; (focus ((repeat' constructor); done)); conv => whnf)
    | (refine Fc.use (kw) ?_ ?_; (focus ((repeat' constructor); done)); conv => whnf)
    | (refine CallQ.of (kw) ?_ ?_; (focus ((repeat' constructor); done)); conv => whnf)
    | (refine Fc.use (kg) ?_ ?_; (focus ((repeat' constructor); done)); conv => whnf)
    | (refine CallQ.of (kg) ?_ ?_; (focus ((repeat' constructor); done)); conv => whnf)
    | rfl
    | exact True.intro
    | (refine And.intro ?_ ?_ <;> conv => whnf))
  · exact Nat.zero_le _
  · exact Nat.zero_le _
  · exact Nat.zero_le _
  · exact Nat.zero_le _
  refine Cd.unroll tabOk 1 ?_
  conv => whnf
  repeat' (first
    | (refine bltG (by first | omega | (simp only [List.length_map] at *; omega)) ?_; conv => whnf)
    | (refine ndG (by assumption) ?_; conv => whnf)
    | (refine mulG ?_; conv => whnf)
    | (refine And.intro rfl ?_; conv => whnf)
    | (refine dsT (by assumption) ?_; conv => whnf)
    | (refine dsF (by assumption) ?_; conv => whnf)
    | (refine nsT (by assumption) ?_; conv => whnf)
    | (refine nsF (by assumption) ?_; conv => whnf)
    | (refine bsT (by assumption) ?_; conv => whnf)
    | (refine bsF (by assumption) ?_; conv => whnf)
    | (refine dsp ?_ ?_ <;> intro _ <;> conv => whnf)
    | (refine nsp ?_ ?_ <;> intro _ <;> conv => whnf)
    | (refine cnd_true (by assumption) ?_; conv => whnf)
    | (refine cnd_false (by assumption) ?_; conv => whnf)
    | (refine cnd_split ?_ ?_ <;> intro _ <;> conv => whnf)
    | (refine Cd.par tabOk (by kernel_rfl) (by kernel_rfl) ?_; conv => whnf)
    | (refine Fc.use ((kc rfl)) ?_ ?_; (focus ((repeat' constructor); done)); conv => whnf)
    | (refine CallQ.of ((kc rfl)) ?_ ?_; (focus ((repeat' constructor); done)); conv => whnf)
    | (refine Fc.use ((kd rfl)) ?_ ?_; (focus ((repeat' constructor); done)); conv => whnf)
    | (refine CallQ.of ((kd rfl)) ?_ ?_; (focus ((repeat' constructor); done)); conv => whnf)
    | rfl
    | exact True.intro
    | (refine And.intro ?_ ?_ <;> conv => whnf))
  all_goals first | rfl | skip
theorem bounds_7 (a : Ar) (f : Fra) (n : Int) (k : Nat) (hk8 : k ≤ 8) (hkw : SV.v (.int .i64 (IntKind.wrap .i64 ((IntKind.wrap .i64 n).tmod 8 + 1))) = iv k) (wa : a.fw) (ka : arOk a)
    (fa : Fc Tryz.prog n_ouroboroslaw08_Few [a.sv] (sb true)) (fe : Fc Tryz.prog n_ouroboroslaw08_Entries [ents f.es, iv 12] (sb true)) (ca : Fc Tryz.prog n_arena_Check [a.sv] (iv 0))
    (ha : a.bd) {g0 g1 g2 g3 g4 g5 g6 h0 h1 h2 h3 h4 h5 h6 : Int} (T : Told2 a f k ⟨g0, g1, g2, g3, g4, g5, g6, []⟩ ⟨h0, h1, h2, h3, h4, h5, h6, []⟩ false false) : Fc Tryz.prog n_ouroboroslaw18_ProbeBounds [a.sv, f.sv, .v (.int .u8 n)] (sb true) := by
  have bb : blwL 0 [a.sv, f.sv, .v (.int .u8 n)] = true := blwL_cons (blw_ar 0 a) (blwL_cons (blw_fra 0 f) (blwL_one rfl))
  obtain ⟨kw, kg, kc, kd, mem, lg, lh, ne, not2, one⟩ := T
  rw [← hkw] at kw kg
  have hmx : 4096 ≤ maxLen := by decide
  dsimp only at *
  have hwk : IntKind.wrap .i64 ((IntKind.wrap .i64 n).tmod 8 + 1) = k := by simpa [iv] using hkw
  have hGk : ((([] : List Ent).map Ent.sv).length : Int) ≤ IntKind.wrap .i64 ((IntKind.wrap .i64 n).tmod 8 + 1) := by rw [hwk, List.length_map]; omega
  have hHk : ((([] : List Ent).map Ent.sv).length : Int) ≤ IntKind.wrap .i64 ((IntKind.wrap .i64 n).tmod 8 + 1) := by rw [hwk, List.length_map]; omega
  have hG : (([] : List Ent).map Ent.sv).length ≤ 4096 := by rw [List.length_map]; omega
  have hH : (([] : List Ent).map Ent.sv).length ≤ 4096 := by rw [List.length_map]; omega
  refine Fc.of_body tabOk q_ouroboroslaw18_ProbeBounds (by kernel_rfl) (bb) (rfl) ?_
  conv => whnf
  repeat' (first
    | (refine Cd.parT tabOk (by kernel_rfl) [0, 3, 6] rfl ?_; conv => whnf)
    | (refine bltG (by first | omega | (simp only [List.length_map] at *; omega)) ?_; conv => whnf)
    | (refine ndG (by assumption) ?_; conv => whnf)
    | (refine mulG ?_; conv => whnf)
    | (refine And.intro rfl ?_; conv => whnf)
    | (refine dsT (by assumption) ?_; conv => whnf)
    | (refine dsF (by assumption) ?_; conv => whnf)
    | (refine nsT (by assumption) ?_; conv => whnf)
    | (refine nsF (by assumption) ?_; conv => whnf)
    | (refine bsT (by assumption) ?_; conv => whnf)
    | (refine bsF (by assumption) ?_; conv => whnf)
    | (refine dsp ?_ ?_ <;> intro _ <;> conv => whnf)
    | (refine nsp ?_ ?_ <;> intro _ <;> conv => whnf)
    | (refine cnd_true (by assumption) ?_; conv => whnf)
    | (refine cnd_false (by assumption) ?_; conv => whnf)
    | (refine cnd_split ?_ ?_ <;> intro _ <;> conv => whnf)
    | (refine Cd.par tabOk (by kernel_rfl) (by kernel_rfl) ?_; conv => whnf)
    | (refine Fc.use (c_works) ?_ ?_; (focus ((repeat' constructor); done)); conv => whnf)
    | (refine CallQ.of (c_works) ?_ ?_; (focus ((repeat' constructor); done)); conv => whnf)
    | (refine Fc.use (fa) ?_ ?_; (focus ((repeat' constructor); done)); conv => whnf)
    | (refine CallQ.of (fa) ?_ ?_; (focus ((repeat' constructor); done)); conv => whnf)
    | (refine Fc.use (fe) ?_ ?_; (focus ((repeat' constructor); done)); conv => whnf)
    | (refine CallQ.of (fe) ?_ ?_; (focus ((repeat' constructor); done)); conv => whnf)
    | (refine Fc.use (ca) ?_ ?_; (focus ((repeat' constructor); done)); conv => whnf)
    | (refine CallQ.of (ca) ?_ ?_; (focus ((repeat' constructor); done)); conv => whnf)
    | (refine Fc.use (kw) ?_ ?_; (focus ((repeat' constructor); done)); conv => whnf)
    | (refine CallQ.of (kw) ?_ ?_; (focus ((repeat' constructor); done)); conv => whnf)
    | (refine Fc.use (kg) ?_ ?_; (focus ((repeat' constructor); done)); conv => whnf)
    | (refine CallQ.of (kg) ?_ ?_; (focus ((repeat' constructor); done)); conv => whnf)
    | rfl
    | exact True.intro
    | (refine And.intro ?_ ?_ <;> conv => whnf))
  · exact Nat.zero_le _
  · exact Nat.zero_le _
  · exact Nat.zero_le _
  · exact Nat.zero_le _
  refine Cd.unroll tabOk 1 ?_
  conv => whnf
  repeat' (first
    | (refine bltG (by first | omega | (simp only [List.length_map] at *; omega)) ?_; conv => whnf)
    | (refine ndG (by assumption) ?_; conv => whnf)
    | (refine mulG ?_; conv => whnf)
    | (refine And.intro rfl ?_; conv => whnf)
    | (refine dsT (by assumption) ?_; conv => whnf)
    | (refine dsF (by assumption) ?_; conv => whnf)
    | (refine nsT (by assumption) ?_; conv => whnf)
    | (refine nsF (by assumption) ?_; conv => whnf)
    | (refine bsT (by assumption) ?_; conv => whnf)
    | (refine bsF (by assumption) ?_; conv => whnf)
    | (refine dsp ?_ ?_ <;> intro _ <;> conv => whnf)
    | (refine nsp ?_ ?_ <;> intro _ <;> conv => whnf)
    | (refine cnd_true (by assumption) ?_; conv => whnf)
    | (refine cnd_false (by assumption) ?_; conv => whnf)
    | (refine cnd_split ?_ ?_ <;> intro _ <;> conv => whnf)
    | (refine Cd.par tabOk (by kernel_rfl) (by kernel_rfl) ?_; conv => whnf)
    | (refine Fc.use ((kc rfl)) ?_ ?_; (focus ((repeat' constructor); done)); conv => whnf)
    | (refine CallQ.of ((kc rfl)) ?_ ?_; (focus ((repeat' constructor); done)); conv => whnf)
    | (refine Fc.use ((kd rfl)) ?_ ?_; (focus ((repeat' constructor); done)); conv => whnf)
    | (refine CallQ.of ((kd rfl)) ?_ ?_; (focus ((repeat' constructor); done)); conv => whnf)
    | rfl
    | exact True.intro
    | (refine And.intro ?_ ?_ <;> conv => whnf))
  all_goals first | rfl | skip
theorem bounds_main (a : Ar) (f : Fra) (n : Int) (k : Nat) (hk8 : k ≤ 8) (hkw : SV.v (.int .i64 (IntKind.wrap .i64 ((IntKind.wrap .i64 n).tmod 8 + 1))) = iv k) (wa : a.fw) (ka : arOk a)
    (fa : Fc Tryz.prog n_ouroboroslaw08_Few [a.sv] (sb true)) (fe : Fc Tryz.prog n_ouroboroslaw08_Entries [ents f.es, iv 12] (sb true)) (ca : Fc Tryz.prog n_arena_Check [a.sv] (iv 0))
    (ha : a.bd) {G H : Fra} {is so : Bool} (T : Told2 a f k G H is so) : Fc Tryz.prog n_ouroboroslaw18_ProbeBounds [a.sv, f.sv, .v (.int .u8 n)] (sb true) := by
  have one := T.one
  have ne := T.ne
  have not2 := T.not2
  obtain ⟨g0, g1, g2, g3, g4, g5, g6, gl⟩ := G
  obtain ⟨h0, h1, h2, h3, h4, h5, h6, hl⟩ := H
  cases gl with
  | cons x r =>
    obtain rfl : hl = [] := by simpa using one
    have so0 : so = false := by cases so with | false => rfl | true => exact absurd rfl (ne rfl)
    subst so0
    cases is
    · exact bounds_2 a f n k hk8 hkw wa ka fa fe ca ha T
    · exact bounds_1 a f n k hk8 hkw wa ka fa fe ca ha T
  | nil =>
  cases hl with
  | cons x r =>
    cases is <;> cases so
    · exact bounds_5 a f n k hk8 hkw wa ka fa fe ca ha T
    · exact bounds_4 a f n k hk8 hkw wa ka fa fe ca ha T
    · exact bounds_3 a f n k hk8 hkw wa ka fa fe ca ha T
    · exact absurd ⟨rfl, rfl⟩ not2
  | nil =>
    have so0 : so = false := by cases so with | false => rfl | true => exact absurd rfl (ne rfl)
    subst so0
    cases is
    · exact bounds_7 a f n k hk8 hkw wa ka fa fe ca ha T
    · exact bounds_6 a f n k hk8 hkw wa ka fa fe ca ha T
theorem c_ProbeBounds (a : Ar) (f : Fra) (n : Int) (hn : 0 ≤ n ∧ n < 256) (wa : a.fw) : Fc Tryz.prog n_ouroboroslaw18_ProbeBounds [a.sv, f.sv, .v (.int .u8 n)] (sb true) := by
  have bb : blwL 0 [a.sv, f.sv, .v (.int .u8 n)] = true := blwL_cons (blw_ar 0 a) (blwL_cons (blw_fra 0 f) (blwL_one rfl))
  have fa := c_law08_Few a
  have fe := c_law08_Entries f.es 12 (by omega)
  by_cases h1 : arFew a
  case neg =>
    rw [decide_eq_false h1] at fa
    refine Fc.of_body tabOk q_ouroboroslaw18_ProbeBounds (by kernel_rfl) (bb) (rfl) ?_
    conv => whnf
    repeat' (first
      | (refine bltG (by first | omega | (simp only [List.length_map] at *; omega)) ?_; conv => whnf)
      | (refine ndG (by assumption) ?_; conv => whnf)
      | (refine mulG ?_; conv => whnf)
      | (refine And.intro rfl ?_; conv => whnf)
      | (refine dsT (by assumption) ?_; conv => whnf)
      | (refine dsF (by assumption) ?_; conv => whnf)
      | (refine nsT (by assumption) ?_; conv => whnf)
      | (refine nsF (by assumption) ?_; conv => whnf)
      | (refine bsT (by assumption) ?_; conv => whnf)
      | (refine bsF (by assumption) ?_; conv => whnf)
      | (refine dsp ?_ ?_ <;> intro _ <;> conv => whnf)
      | (refine nsp ?_ ?_ <;> intro _ <;> conv => whnf)
      | (refine cnd_true (by assumption) ?_; conv => whnf)
      | (refine cnd_false (by assumption) ?_; conv => whnf)
      | (refine cnd_split ?_ ?_ <;> intro _ <;> conv => whnf)
      | (refine Cd.par tabOk (by kernel_rfl) (by kernel_rfl) ?_; conv => whnf)
      | (refine Fc.use (c_works) ?_ ?_; (focus ((repeat' constructor); done)); conv => whnf)
      | (refine CallQ.of (c_works) ?_ ?_; (focus ((repeat' constructor); done)); conv => whnf)
      | (refine Fc.use (fa) ?_ ?_; (focus ((repeat' constructor); done)); conv => whnf)
      | (refine CallQ.of (fa) ?_ ?_; (focus ((repeat' constructor); done)); conv => whnf))
    all_goals rfl
  by_cases h2 : ((f.es.length : Int) ≤ 12 ∧ ∀ e ∈ f.es, entFew e)
  case neg =>
    rw [decide_eq_true h1] at fa
    rw [decide_eq_false h2] at fe
    refine Fc.of_body tabOk q_ouroboroslaw18_ProbeBounds (by kernel_rfl) (bb) (rfl) ?_
    conv => whnf
    repeat' (first
      | (refine bltG (by first | omega | (simp only [List.length_map] at *; omega)) ?_; conv => whnf)
      | (refine ndG (by assumption) ?_; conv => whnf)
      | (refine mulG ?_; conv => whnf)
      | (refine And.intro rfl ?_; conv => whnf)
      | (refine dsT (by assumption) ?_; conv => whnf)
      | (refine dsF (by assumption) ?_; conv => whnf)
      | (refine nsT (by assumption) ?_; conv => whnf)
      | (refine nsF (by assumption) ?_; conv => whnf)
      | (refine bsT (by assumption) ?_; conv => whnf)
      | (refine bsF (by assumption) ?_; conv => whnf)
      | (refine dsp ?_ ?_ <;> intro _ <;> conv => whnf)
      | (refine nsp ?_ ?_ <;> intro _ <;> conv => whnf)
      | (refine cnd_true (by assumption) ?_; conv => whnf)
      | (refine cnd_false (by assumption) ?_; conv => whnf)
      | (refine cnd_split ?_ ?_ <;> intro _ <;> conv => whnf)
      | (refine Cd.par tabOk (by kernel_rfl) (by kernel_rfl) ?_; conv => whnf)
      | (refine Fc.use (c_works) ?_ ?_; (focus ((repeat' constructor); done)); conv => whnf)
      | (refine CallQ.of (c_works) ?_ ?_; (focus ((repeat' constructor); done)); conv => whnf)
      | (refine Fc.use (fa) ?_ ?_; (focus ((repeat' constructor); done)); conv => whnf)
      | (refine CallQ.of (fa) ?_ ?_; (focus ((repeat' constructor); done)); conv => whnf)
      | (refine Fc.use (fe) ?_ ?_; (focus ((repeat' constructor); done)); conv => whnf)
      | (refine CallQ.of (fe) ?_ ?_; (focus ((repeat' constructor); done)); conv => whnf))
    all_goals rfl
  rw [decide_eq_true h1] at fa
  rw [decide_eq_true h2] at fe
  have ha := h1.bd
  have hf : f.bd := ⟨fun e he => few_bd (h2.2 e he).1, by have := h2.1; omega⟩
  have ca := c_arena_Check a ha
  unfold en at ca
  by_cases k1 : arOk a
  case neg =>
    rw [if_neg k1] at ca
    refine Fc.of_body tabOk q_ouroboroslaw18_ProbeBounds (by kernel_rfl) (bb) (rfl) ?_
    conv => whnf
    repeat' (first
      | (refine bltG (by first | omega | (simp only [List.length_map] at *; omega)) ?_; conv => whnf)
      | (refine ndG (by assumption) ?_; conv => whnf)
      | (refine mulG ?_; conv => whnf)
      | (refine And.intro rfl ?_; conv => whnf)
      | (refine dsT (by assumption) ?_; conv => whnf)
      | (refine dsF (by assumption) ?_; conv => whnf)
      | (refine nsT (by assumption) ?_; conv => whnf)
      | (refine nsF (by assumption) ?_; conv => whnf)
      | (refine bsT (by assumption) ?_; conv => whnf)
      | (refine bsF (by assumption) ?_; conv => whnf)
      | (refine dsp ?_ ?_ <;> intro _ <;> conv => whnf)
      | (refine nsp ?_ ?_ <;> intro _ <;> conv => whnf)
      | (refine cnd_true (by assumption) ?_; conv => whnf)
      | (refine cnd_false (by assumption) ?_; conv => whnf)
      | (refine cnd_split ?_ ?_ <;> intro _ <;> conv => whnf)
      | (refine Cd.par tabOk (by kernel_rfl) (by kernel_rfl) ?_; conv => whnf)
      | (refine Fc.use (c_works) ?_ ?_; (focus ((repeat' constructor); done)); conv => whnf)
      | (refine CallQ.of (c_works) ?_ ?_; (focus ((repeat' constructor); done)); conv => whnf)
      | (refine Fc.use (fa) ?_ ?_; (focus ((repeat' constructor); done)); conv => whnf)
      | (refine CallQ.of (fa) ?_ ?_; (focus ((repeat' constructor); done)); conv => whnf)
      | (refine Fc.use (fe) ?_ ?_; (focus ((repeat' constructor); done)); conv => whnf)
      | (refine CallQ.of (fe) ?_ ?_; (focus ((repeat' constructor); done)); conv => whnf)
      | (refine Fc.use (ca) ?_ ?_; (focus ((repeat' constructor); done)); conv => whnf)
      | (refine CallQ.of (ca) ?_ ?_; (focus ((repeat' constructor); done)); conv => whnf))
    all_goals rfl
  rw [if_pos k1] at ca
  obtain ⟨k, hk1, hk8, hkn⟩ : ∃ k : Nat, 1 ≤ k ∧ k ≤ 8 ∧ (k : Int) = n % 8 + 1 := ⟨(n % 8 + 1).toNat, by omega, by omega, by omega⟩
  have hkw : SV.v (.int .i64 (IntKind.wrap .i64 ((IntKind.wrap .i64 n).tmod 8 + 1))) = iv k := by
    rw [wrap_i64 (n := n) (by omega) (by omega), Int.tmod_eq_emod_of_nonneg hn.1, ← hkn, wrap_i64 (by omega) (by omega)]; rfl
  exact bounds_main a f n k hk8 hkw wa k1 fa fe ca ha (told2 ha hf hk1)
end Go.Proofs.YtmjpidjdbofdjaaGreat

