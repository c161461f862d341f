import Derived.Test.YthdkofhgdmgdcaaDt
/- Contracts: config. -/
set_option linter.unusedVariables false
set_option linter.unusedSimpArgs false
set_option maxRecDepth 100000
set_option maxHeartbeats 1600000
namespace Go.Proofs.Ythdkofhgdmgdcaa
open Go Go.Sy
structure Cf where
  a : Int
  b : Int
  c : Int
  d : Int
  e : Int
  f : Int
  g : Int
  h : Int
  deriving DecidableEq
def Cf.sv (x : Cf) : SV := .agg [iv x.a, iv x.b, iv x.c, iv x.d, iv x.e, iv x.f, iv x.g, iv x.h]
theorem blw_cf (m : Nat) (x : Cf) : blw m x.sv = true := rfl
def cok (x : Cf) : Prop := 2 ≤ x.a ∧ x.a ≤ 8 ∧ 1 ≤ x.b ∧ x.b ≤ 8 ∧ 3 ≤ x.c ∧ x.c ≤ 6 ∧ x.b + 3 ≤ x.d ∧ x.d ≤ 24 ∧ 1 ≤ x.e ∧ x.e ≤ 4 ∧ 1 ≤ x.f ∧ x.f ≤ 8 ∧ 2 ≤ x.g ∧ x.g ≤ 8 ∧ 1 ≤ x.h ∧ x.h ≤ 2147483647
instance (x : Cf) : Decidable (cok x) := by unfold cok; infer_instance
def ck (x : Cf) : Int := if cok x then 0 else 1
theorem ck_y {x : Cf} (h : cok x) : ck x = 0 := if_pos h
theorem ck_n {x : Cf} (h : ¬ cok x) : ck x = 1 := if_neg h
theorem c_record_Size : Fc Try.prog n_record_Size [iv 42] (iv 92) := by
  refine Fc.of_body tabOk q_record_Size (by kernel_rfl) (rfl) (rfl) ?_
  conv => whnf
  repeat' (first
    | (refine bltG (by first | omega | (simp only [List.length_map] at *; omega)) ?_; conv => whnf)
    | (refine ndG (by assumption) ?_; conv => whnf)
    | (refine mulG ?_; conv => whnf)
    | (refine And.intro rfl ?_; conv => whnf)
    | (refine dsT (by assumption) ?_; conv => whnf)
    | (refine dsF (by assumption) ?_; conv => whnf)
    | (refine nsT (by assumption) ?_; conv => whnf)
    | (refine nsF (by assumption) ?_; conv => whnf)
    | (refine bsT (by assumption) ?_; conv => whnf)
    | (refine bsF (by assumption) ?_; conv => whnf)
    | (refine dsp ?_ ?_ <;> intro _ <;> conv => whnf)
    | (refine nsp ?_ ?_ <;> intro _ <;> conv => whnf)
    | (refine cnd_true (by assumption) ?_; conv => whnf)
    | (refine cnd_false (by assumption) ?_; conv => whnf)
    | (refine cnd_split ?_ ?_ <;> intro _ <;> conv => whnf)
    | (refine Cd.par tabOk (by kernel_rfl) (by kernel_rfl) ?_; conv => whnf))
  all_goals rfl
def lowRoom (b : Int) : Int := IntKind.wrap .i64 (min2 .min .i64 (min2 .max .i64 b 0) 8 + 3)
def spanL (b : Int) : List SV := [.clo (.func n_config_spans_1) [] [], iv 2, iv 8, .clo (.func n_config_spans_2) [] [], iv 1, iv 8, .clo (.func n_config_spans_3) [] [], iv 3, iv 6, .clo (.func n_config_spans_4) [] [], iv (lowRoom b), iv 24,
  .clo (.func n_config_spans_5) [] [], iv 1, iv 4, .clo (.func n_config_spans_6) [] [], iv 1, iv 8, .clo (.func n_config_spans_7) [] [], iv 2, iv 8, .clo (.func n_config_spans_8) [] [], iv 1, iv 2147483647]
theorem c_config_spans (x : Cf) : Fc Try.prog n_config_spans [x.sv] (.agg (spanL x.b)) := by
  refine Fc.of_body tabOk q_config_spans (by kernel_rfl) (rfl) (rfl) ?_
  conv => whnf
  repeat' (first
    | (refine bltG (by first | omega | (simp only [List.length_map] at *; omega)) ?_; conv => whnf)
    | (refine ndG (by assumption) ?_; conv => whnf)
    | (refine mulG ?_; conv => whnf)
    | (refine And.intro rfl ?_; conv => whnf)
    | (refine dsT (by assumption) ?_; conv => whnf)
    | (refine dsF (by assumption) ?_; conv => whnf)
    | (refine nsT (by assumption) ?_; conv => whnf)
    | (refine nsF (by assumption) ?_; conv => whnf)
    | (refine bsT (by assumption) ?_; conv => whnf)
    | (refine bsF (by assumption) ?_; conv => whnf)
    | (refine dsp ?_ ?_ <;> intro _ <;> conv => whnf)
    | (refine nsp ?_ ?_ <;> intro _ <;> conv => whnf)
    | (refine cnd_true (by assumption) ?_; conv => whnf)
    | (refine cnd_false (by assumption) ?_; conv => whnf)
    | (refine cnd_split ?_ ?_ <;> intro _ <;> conv => whnf)
    | (refine Cd.par tabOk (by kernel_rfl) (by kernel_rfl) ?_; conv => whnf)
    | rfl
    | exact True.intro
    | (refine And.intro ?_ ?_ <;> conv => whnf))
theorem lowRoom_eq {b : Int} (h1 : 1 ≤ b) (h2 : b ≤ 8) : lowRoom b = b + 3 := by
  unfold lowRoom
  rw [show min2 .max .i64 b 0 = b by unfold min2; simp only; rw [if_neg (by omega)], show min2 .min .i64 b 8 = b by unfold min2; simp only; split <;> omega, wrap_i64 (by omega) (by omega)]
theorem c_config_Check (x : Cf) : Fc Try.prog n_config_Check [x.sv] (iv (ck x)) := by
  have hb : 1 ≤ x.b → x.b ≤ 8 → lowRoom x.b = x.b + 3 := lowRoom_eq
  unfold ck cok
  obtain ⟨a, b, c, d, e, f, g, h⟩ := x
  dsimp only at hb ⊢
  have hs := c_config_spans ⟨a, b, c, d, e, f, g, h⟩
  unfold spanL at hs
  dsimp only at hs
  generalize lowRoom b = lr at *
  refine Fc.of_body tabOk q_config_Check (by kernel_rfl) (rfl) (rfl) ?_
  conv => whnf
  repeat' (first
    | (refine bltG (by first | omega | (simp only [List.length_map] at *; omega)) ?_; conv => whnf)
    | (refine ndG (by assumption) ?_; conv => whnf)
    | (refine mulG ?_; conv => whnf)
    | (refine And.intro rfl ?_; conv => whnf)
    | (refine dsT (by assumption) ?_; conv => whnf)
    | (refine dsF (by assumption) ?_; conv => whnf)
    | (refine nsT (by assumption) ?_; conv => whnf)
    | (refine nsF (by assumption) ?_; conv => whnf)
    | (refine bsT (by assumption) ?_; conv => whnf)
    | (refine bsF (by assumption) ?_; conv => whnf)
    | (refine dsp ?_ ?_ <;> intro _ <;> conv => whnf)
    | (refine nsp ?_ ?_ <;> intro _ <;> conv => whnf)
    | (refine cnd_true (by assumption) ?_; conv => whnf)
    | (refine cnd_false (by assumption) ?_; conv => whnf)
    | (refine cnd_split ?_ ?_ <;> intro _ <;> conv => whnf)
    | (refine Cd.par tabOk (by kernel_rfl) (by kernel_rfl) ?_; conv => whnf)
    | (refine Fc.use (hs) ?_ ?_; (focus ((repeat' constructor); done)); conv => whnf)
    | (refine CallQ.of (hs) ?_ ?_; (focus ((repeat' constructor); done)); conv => whnf)
    | (refine Cd.unroll tabOk 9 ?_; conv => whnf)
    | (refine Tr.of_body tabOk q_config_spans_1 (by kernel_rfl) ?_; conv => whnf)
    | (refine Tr.of_body tabOk q_config_spans_2 (by kernel_rfl) ?_; conv => whnf)
    | (refine Tr.of_body tabOk q_config_spans_3 (by kernel_rfl) ?_; conv => whnf)
    | (refine Tr.of_body tabOk q_config_spans_4 (by kernel_rfl) ?_; conv => whnf)
    | (refine Tr.of_body tabOk q_config_spans_5 (by kernel_rfl) ?_; conv => whnf)
    | (refine Tr.of_body tabOk q_config_spans_6 (by kernel_rfl) ?_; conv => whnf)
    | (refine Tr.of_body tabOk q_config_spans_7 (by kernel_rfl) ?_; conv => whnf)
    | (refine Tr.of_body tabOk q_config_spans_8 (by kernel_rfl) ?_; conv => whnf))
  all_goals first
    | rfl
    | (refine sbT ?_; ((try simp only [List.length_map] at *); first | omega | grind))
    | (refine sbF ?_; ((try simp only [List.length_map] at *); first | omega | grind))
    | (refine sbD ?_; ((try simp only [List.length_map] at *); first | omega | grind))
    | (refine sbB ?_; ((try simp only [List.length_map] at *); first | omega | grind))
    | (refine ivT ?_; ((try simp only [List.length_map] at *); first | omega | grind))
    | (refine ivF ?_; ((try simp only [List.length_map] at *); first | omega | grind))
    | (refine ivD ?_; ((try simp only [List.length_map] at *); first | omega | grind))
end Go.Proofs.Ythdkofhgdmgdcaa

