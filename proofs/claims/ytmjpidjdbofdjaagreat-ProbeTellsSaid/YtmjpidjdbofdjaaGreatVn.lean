import Derived.Test.YtmjpidjdbofdjaaGreatVl
import Derived.Test.YtmjpidjdbofdjaaGreatYZ
/- Contracts: frames. Contracts: frames, sweeps. -/
set_option linter.unusedVariables false
set_option linter.unusedSimpArgs false
set_option maxRecDepth 100000
set_option maxHeartbeats 1600000
namespace Go.Proofs.YtmjpidjdbofdjaaGreat
open Go Go.Sy
structure Fra where
  typ : Int
  a : Int
  b : Int
  l0 : Int
  l1 : Int
  l2 : Int
  l3 : Int
  es : List Ent
  deriving DecidableEq
def Fra.cs (f : Fra) : List SV := [iv f.typ, iv f.a, iv f.b, iv f.l0, iv f.l1, iv f.l2, iv f.l3, ents f.es]
def Fra.sv (f : Fra) : SV := .agg f.cs
theorem blw_fra (m : Nat) (f : Fra) : blw m f.sv = true := by simp [Fra.sv, Fra.cs, blw, blwL, blw_iv, blw_ents]
def Fra.bd (f : Fra) : Prop := (∀ e ∈ f.es, e.bd) ∧ f.es.length < 2 ^ 40
noncomputable def info3 : TypeInfo := (Tryz.prog.info? t_int).getD default
theorem info3_eq : Tryz.prog.info? t_int = some info3 := by kernel_rfl
theorem agg4 {a b c d : Int} {K : Bool → Prop} (h : K (decide ([a, b, c, d] = [0, 0, 0, 0]))) : AggEq Tryz.prog .eql t_4_int [iv a, iv b, iv c, iv d] [iv 0, iv 0, iv 0, iv 0] K :=
  AggEq.ints (xs := [a, b, c, d]) (ys := [0, 0, 0, 0]) u_4_int u_int info3_eq (by kernel_rfl) (by kernel_rfl) rfl rfl h
theorem err1 {p : Prop} [Decidable p] (h : p) : (if p then (0 : Int) else 1) = 0 := if_pos h
theorem err1' {p : Prop} [Decidable p] (h : (if p then (0 : Int) else 1) = 0) : p := by
  by_cases hp : p
  · exact hp
  · rw [if_neg hp] at h; omega
def fr1 (f : Fra) : Prop := digOk f.l0 f.l1 f.l2 f.l3 ∧ 0 ≤ f.a ∧ f.a ≤ 2147483647 ∧ 0 ≤ f.b ∧ f.b ≤ 2147483647 ∧ [f.l0, f.l1, f.l2, f.l3] = [0, 0, 0, 0] ∧ (f.es.length : Int) ≤ 8 ∧ ∀ e ∈ f.es, entOk e
instance (f : Fra) : Decidable (fr1 f) := by unfold fr1; infer_instance
theorem c_frame_Check1 (f : Fra) (hf : f.bd) (ht : f.typ = 1) : Fc Tryz.prog n_frame_Check [f.sv] (en (fr1 f)) := by
  obtain ⟨hb, hl⟩ := hf
  refine Fc.of_body tabOk q_frame_Check (by kernel_rfl) ((blwL_one (blw_fra 0 f))) (rfl) ?_
  conv => whnf
  refine Cd.parT tabOk (by kernel_rfl) [0, 7, 8] (by kernel_rfl) ?_
  conv => whnf
  repeat' (first
    | (refine agg4 ?_; conv => whnf)
    | (refine bltG (by first | omega | (simp only [List.length_map] at *; omega)) ?_; conv => whnf)
    | (refine ndG (by assumption) ?_; conv => whnf)
    | (refine mulG ?_; conv => whnf)
    | (refine And.intro rfl ?_; conv => whnf)
    | (refine dsT (by assumption) ?_; conv => whnf)
    | (refine dsF (by assumption) ?_; conv => whnf)
    | (refine nsT (by assumption) ?_; conv => whnf)
    | (refine nsF (by assumption) ?_; conv => whnf)
    | (refine bsT (by assumption) ?_; conv => whnf)
    | (refine bsF (by assumption) ?_; conv => whnf)
    | (refine dsp ?_ ?_ <;> intro _ <;> conv => whnf)
    | (refine nsp ?_ ?_ <;> intro _ <;> conv => whnf)
    | (refine cnd_true (by assumption) ?_; conv => whnf)
    | (refine cnd_false (by assumption) ?_; conv => whnf)
    | (refine cnd_split ?_ ?_ <;> intro _ <;> conv => whnf)
    | (refine Cd.par tabOk (by kernel_rfl) (by kernel_rfl) ?_; conv => whnf)
    | rfl
    | exact True.intro
    | (refine And.intro ?_ ?_ <;> conv => whnf)
    | (refine Tr.of_body tabOk q_frame_forms (by kernel_rfl) ?_; conv => whnf)
    | (refine Fc.use (c_digest_Put f.l0 f.l1 f.l2 f.l3) ?_ ?_; (focus ((repeat' constructor); done)); conv => whnf)
    | (refine CallQ.of (c_digest_Put f.l0 f.l1 f.l2 f.l3) ?_ ?_; (focus ((repeat' constructor); done)); conv => whnf)
    | (refine Fc.use (c_odd_frame f.es hb (by omega)) ?_ ?_; (focus ((repeat' constructor); done)); conv => whnf)
    | (refine CallQ.of (c_odd_frame f.es hb (by omega)) ?_ ?_; (focus ((repeat' constructor); done)); conv => whnf))
  all_goals try simp only [List.length_map] at *
  all_goals first
    | (refine enF (fun h => ?_); simp only [fr1] at h; first | (exfalso; omega) | grind)
    | (refine enT ?_; simp only [fr1]; grind)
def fr2 (f : Fra) : Prop := digOk f.l0 f.l1 f.l2 f.l3 ∧ 0 ≤ f.a ∧ f.a ≤ 2147483647 ∧ 0 ≤ f.b ∧ f.b ≤ 2147483647 ∧ [f.l0, f.l1, f.l2, f.l3] = [0, 0, 0, 0] ∧ (f.es.length : Int) = 0 ∧ (f.es.length : Int) ≤ 8 ∧ ∀ e ∈ f.es, entOk e
instance (f : Fra) : Decidable (fr2 f) := by unfold fr2; infer_instance
theorem c_frame_Check2 (f : Fra) (hf : f.bd) (ht : f.typ = 2) : Fc Tryz.prog n_frame_Check [f.sv] (en (fr2 f)) := by
  obtain ⟨hb, hl⟩ := hf
  have n1 : ¬ f.typ = 1 := by omega
  refine Fc.of_body tabOk q_frame_Check (by kernel_rfl) ((blwL_one (blw_fra 0 f))) (rfl) ?_
  conv => whnf
  refine Cd.parT tabOk (by kernel_rfl) [0, 7, 8] (by kernel_rfl) ?_
  conv => whnf
  repeat' (first
    | (refine agg4 ?_; conv => whnf)
    | (refine bltG (by first | omega | (simp only [List.length_map] at *; omega)) ?_; conv => whnf)
    | (refine ndG (by assumption) ?_; conv => whnf)
    | (refine mulG ?_; conv => whnf)
    | (refine And.intro rfl ?_; conv => whnf)
    | (refine dsT (by assumption) ?_; conv => whnf)
    | (refine dsF (by assumption) ?_; conv => whnf)
    | (refine nsT (by assumption) ?_; conv => whnf)
    | (refine nsF (by assumption) ?_; conv => whnf)
    | (refine bsT (by assumption) ?_; conv => whnf)
    | (refine bsF (by assumption) ?_; conv => whnf)
    | (refine dsp ?_ ?_ <;> intro _ <;> conv => whnf)
    | (refine nsp ?_ ?_ <;> intro _ <;> conv => whnf)
    | (refine cnd_true (by assumption) ?_; conv => whnf)
    | (refine cnd_false (by assumption) ?_; conv => whnf)
    | (refine cnd_split ?_ ?_ <;> intro _ <;> conv => whnf)
    | (refine Cd.par tabOk (by kernel_rfl) (by kernel_rfl) ?_; conv => whnf)
    | rfl
    | exact True.intro
    | (refine And.intro ?_ ?_ <;> conv => whnf)
    | (refine Tr.of_body tabOk q_frame_forms (by kernel_rfl) ?_; conv => whnf)
    | (refine Fc.use (c_digest_Put f.l0 f.l1 f.l2 f.l3) ?_ ?_; (focus ((repeat' constructor); done)); conv => whnf)
    | (refine CallQ.of (c_digest_Put f.l0 f.l1 f.l2 f.l3) ?_ ?_; (focus ((repeat' constructor); done)); conv => whnf)
    | (refine Fc.use (c_odd_frame f.es hb (by omega)) ?_ ?_; (focus ((repeat' constructor); done)); conv => whnf)
    | (refine CallQ.of (c_odd_frame f.es hb (by omega)) ?_ ?_; (focus ((repeat' constructor); done)); conv => whnf))
  all_goals try simp only [List.length_map] at *
  all_goals first
    | (refine enF (fun h => ?_); simp only [fr2] at h; first | (exfalso; omega) | grind)
    | (refine enT ?_; simp only [fr2]; grind)
def fr3 (f : Fra) : Prop := digOk f.l0 f.l1 f.l2 f.l3 ∧ 0 ≤ f.a ∧ f.a ≤ 0 ∧ 0 ≤ f.b ∧ f.b ≤ 0 ∧ (f.es.length : Int) = 0 ∧ (f.es.length : Int) ≤ 8 ∧ ∀ e ∈ f.es, entOk e
instance (f : Fra) : Decidable (fr3 f) := by unfold fr3; infer_instance
theorem c_frame_Check3 (f : Fra) (hf : f.bd) (ht : f.typ = 3) : Fc Tryz.prog n_frame_Check [f.sv] (en (fr3 f)) := by
  obtain ⟨hb, hl⟩ := hf
  have n1 : ¬ f.typ = 1 := by omega
  have n2 : ¬ f.typ = 2 := by omega
  refine Fc.of_body tabOk q_frame_Check (by kernel_rfl) ((blwL_one (blw_fra 0 f))) (rfl) ?_
  conv => whnf
  refine Cd.parT tabOk (by kernel_rfl) [0, 7, 8] (by kernel_rfl) ?_
  conv => whnf
  repeat' (first
    | (refine agg4 ?_; conv => whnf)
    | (refine bltG (by first | omega | (simp only [List.length_map] at *; omega)) ?_; conv => whnf)
    | (refine ndG (by assumption) ?_; conv => whnf)
    | (refine mulG ?_; conv => whnf)
    | (refine And.intro rfl ?_; conv => whnf)
    | (refine dsT (by assumption) ?_; conv => whnf)
    | (refine dsF (by assumption) ?_; conv => whnf)
    | (refine nsT (by assumption) ?_; conv => whnf)
    | (refine nsF (by assumption) ?_; conv => whnf)
    | (refine bsT (by assumption) ?_; conv => whnf)
    | (refine bsF (by assumption) ?_; conv => whnf)
    | (refine dsp ?_ ?_ <;> intro _ <;> conv => whnf)
    | (refine nsp ?_ ?_ <;> intro _ <;> conv => whnf)
    | (refine cnd_true (by assumption) ?_; conv => whnf)
    | (refine cnd_false (by assumption) ?_; conv => whnf)
    | (refine cnd_split ?_ ?_ <;> intro _ <;> conv => whnf)
    | (refine Cd.par tabOk (by kernel_rfl) (by kernel_rfl) ?_; conv => whnf)
    | rfl
    | exact True.intro
    | (refine And.intro ?_ ?_ <;> conv => whnf)
    | (refine Tr.of_body tabOk q_frame_forms (by kernel_rfl) ?_; conv => whnf)
    | (refine Fc.use (c_digest_Put f.l0 f.l1 f.l2 f.l3) ?_ ?_; (focus ((repeat' constructor); done)); conv => whnf)
    | (refine CallQ.of (c_digest_Put f.l0 f.l1 f.l2 f.l3) ?_ ?_; (focus ((repeat' constructor); done)); conv => whnf)
    | (refine Fc.use (c_odd_frame f.es hb (by omega)) ?_ ?_; (focus ((repeat' constructor); done)); conv => whnf)
    | (refine CallQ.of (c_odd_frame f.es hb (by omega)) ?_ ?_; (focus ((repeat' constructor); done)); conv => whnf))
  all_goals try simp only [List.length_map] at *
  all_goals first
    | (refine enF (fun h => ?_); simp only [fr3] at h; first | (exfalso; omega) | grind)
    | (refine enT ?_; simp only [fr3]; grind)
def fr4 (f : Fra) : Prop := digOk f.l0 f.l1 f.l2 f.l3 ∧ 1 ≤ f.a ∧ f.a ≤ 15 ∧ 0 ≤ f.b ∧ f.b ≤ 0 ∧ [f.l0, f.l1, f.l2, f.l3] = [0, 0, 0, 0] ∧ (f.es.length : Int) ≤ 8 ∧ ∀ e ∈ f.es, entOk e
instance (f : Fra) : Decidable (fr4 f) := by unfold fr4; infer_instance
theorem c_frame_Check4 (f : Fra) (hf : f.bd) (ht : f.typ = 4) : Fc Tryz.prog n_frame_Check [f.sv] (en (fr4 f)) := by
  obtain ⟨hb, hl⟩ := hf
  have n1 : ¬ f.typ = 1 := by omega
  have n2 : ¬ f.typ = 2 := by omega
  have n3 : ¬ f.typ = 3 := by omega
  refine Fc.of_body tabOk q_frame_Check (by kernel_rfl) ((blwL_one (blw_fra 0 f))) (rfl) ?_
  conv => whnf
  refine Cd.parT tabOk (by kernel_rfl) [0, 7, 8] (by kernel_rfl) ?_
  conv => whnf
  repeat' (first
    | (refine agg4 ?_; conv => whnf)
    | (refine bltG (by first | omega | (simp only [List.length_map] at *; omega)) ?_; conv => whnf)
    | (refine ndG (by assumption) ?_; conv => whnf)
    | (refine mulG ?_; conv => whnf)
    | (refine And.intro rfl ?_; conv => whnf)
    | (refine dsT (by assumption) ?_; conv => whnf)
    | (refine dsF (by assumption) ?_; conv => whnf)
    | (refine nsT (by assumption) ?_; conv => whnf)
    | (refine nsF (by assumption) ?_; conv => whnf)
    | (refine bsT (by assumption) ?_; conv => whnf)
    | (refine bsF (by assumption) ?_; conv => whnf)
    | (refine dsp ?_ ?_ <;> intro _ <;> conv => whnf)
    | (refine nsp ?_ ?_ <;> intro _ <;> conv => whnf)
    | (refine cnd_true (by assumption) ?_; conv => whnf)
    | (refine cnd_false (by assumption) ?_; conv => whnf)
    | (refine cnd_split ?_ ?_ <;> intro _ <;> conv => whnf)
    | (refine Cd.par tabOk (by kernel_rfl) (by kernel_rfl) ?_; conv => whnf)
    | rfl
    | exact True.intro
    | (refine And.intro ?_ ?_ <;> conv => whnf)
    | (refine Tr.of_body tabOk q_frame_forms (by kernel_rfl) ?_; conv => whnf)
    | (refine Fc.use (c_digest_Put f.l0 f.l1 f.l2 f.l3) ?_ ?_; (focus ((repeat' constructor); done)); conv => whnf)
    | (refine CallQ.of (c_digest_Put f.l0 f.l1 f.l2 f.l3) ?_ ?_; (focus ((repeat' constructor); done)); conv => whnf)
    | (refine Fc.use (c_odd_frame f.es hb (by omega)) ?_ ?_; (focus ((repeat' constructor); done)); conv => whnf)
    | (refine CallQ.of (c_odd_frame f.es hb (by omega)) ?_ ?_; (focus ((repeat' constructor); done)); conv => whnf))
  all_goals try simp only [List.length_map] at *
  all_goals first
    | (refine enF (fun h => ?_); simp only [fr4] at h; first | (exfalso; omega) | grind)
    | (refine enT ?_; simp only [fr4]; grind)
def fr5 (f : Fra) : Prop := digOk f.l0 f.l1 f.l2 f.l3 ∧ 0 ≤ f.a ∧ f.a ≤ 0 ∧ 0 ≤ f.b ∧ f.b ≤ 0 ∧ [f.l0, f.l1, f.l2, f.l3] = [0, 0, 0, 0] ∧ (f.es.length : Int) ≤ 8 ∧ ∀ e ∈ f.es, entOk e
instance (f : Fra) : Decidable (fr5 f) := by unfold fr5; infer_instance
theorem c_frame_Check5 (f : Fra) (hf : f.bd) (ht : f.typ = 5) : Fc Tryz.prog n_frame_Check [f.sv] (en (fr5 f)) := by
  obtain ⟨hb, hl⟩ := hf
  have n1 : ¬ f.typ = 1 := by omega
  have n2 : ¬ f.typ = 2 := by omega
  have n3 : ¬ f.typ = 3 := by omega
  have n4 : ¬ f.typ = 4 := by omega
  refine Fc.of_body tabOk q_frame_Check (by kernel_rfl) ((blwL_one (blw_fra 0 f))) (rfl) ?_
  conv => whnf
  refine Cd.parT tabOk (by kernel_rfl) [0, 7, 8] (by kernel_rfl) ?_
  conv => whnf
  repeat' (first
    | (refine agg4 ?_; conv => whnf)
    | (refine bltG (by first | omega | (simp only [List.length_map] at *; omega)) ?_; conv => whnf)
    | (refine ndG (by assumption) ?_; conv => whnf)
    | (refine mulG ?_; conv => whnf)
    | (refine And.intro rfl ?_; conv => whnf)
    | (refine dsT (by assumption) ?_; conv => whnf)
    | (refine dsF (by assumption) ?_; conv => whnf)
    | (refine nsT (by assumption) ?_; conv => whnf)
    | (refine nsF (by assumption) ?_; conv => whnf)
    | (refine bsT (by assumption) ?_; conv => whnf)
    | (refine bsF (by assumption) ?_; conv => whnf)
    | (refine dsp ?_ ?_ <;> intro _ <;> conv => whnf)
    | (refine nsp ?_ ?_ <;> intro _ <;> conv => whnf)
    | (refine cnd_true (by assumption) ?_; conv => whnf)
    | (refine cnd_false (by assumption) ?_; conv => whnf)
    | (refine cnd_split ?_ ?_ <;> intro _ <;> conv => whnf)
    | (refine Cd.par tabOk (by kernel_rfl) (by kernel_rfl) ?_; conv => whnf)
    | rfl
    | exact True.intro
    | (refine And.intro ?_ ?_ <;> conv => whnf)
    | (refine Tr.of_body tabOk q_frame_forms (by kernel_rfl) ?_; conv => whnf)
    | (refine Fc.use (c_digest_Put f.l0 f.l1 f.l2 f.l3) ?_ ?_; (focus ((repeat' constructor); done)); conv => whnf)
    | (refine CallQ.of (c_digest_Put f.l0 f.l1 f.l2 f.l3) ?_ ?_; (focus ((repeat' constructor); done)); conv => whnf)
    | (refine Fc.use (c_odd_frame f.es hb (by omega)) ?_ ?_; (focus ((repeat' constructor); done)); conv => whnf)
    | (refine CallQ.of (c_odd_frame f.es hb (by omega)) ?_ ?_; (focus ((repeat' constructor); done)); conv => whnf))
  all_goals try simp only [List.length_map] at *
  all_goals first
    | (refine enF (fun h => ?_); simp only [fr5] at h; first | (exfalso; omega) | grind)
    | (refine enT ?_; simp only [fr5]; grind)
def fr6 (f : Fra) : Prop := digOk f.l0 f.l1 f.l2 f.l3 ∧ 0 ≤ f.a ∧ f.a ≤ 2147483647 ∧ 0 ≤ f.b ∧ f.b ≤ 0 ∧ [f.l0, f.l1, f.l2, f.l3] = [0, 0, 0, 0] ∧ (f.es.length : Int) ≤ 8 ∧ ∀ e ∈ f.es, entOk e
instance (f : Fra) : Decidable (fr6 f) := by unfold fr6; infer_instance
theorem c_frame_Check6 (f : Fra) (hf : f.bd) (ht : f.typ = 6) : Fc Tryz.prog n_frame_Check [f.sv] (en (fr6 f)) := by
  obtain ⟨hb, hl⟩ := hf
  have n1 : ¬ f.typ = 1 := by omega
  have n2 : ¬ f.typ = 2 := by omega
  have n3 : ¬ f.typ = 3 := by omega
  have n4 : ¬ f.typ = 4 := by omega
  have n5 : ¬ f.typ = 5 := by omega
  refine Fc.of_body tabOk q_frame_Check (by kernel_rfl) ((blwL_one (blw_fra 0 f))) (rfl) ?_
  conv => whnf
  refine Cd.parT tabOk (by kernel_rfl) [0, 7, 8] (by kernel_rfl) ?_
  conv => whnf
  repeat' (first
    | (refine agg4 ?_; conv => whnf)
    | (refine bltG (by first | omega | (simp only [List.length_map] at *; omega)) ?_; conv => whnf)
    | (refine ndG (by assumption) ?_; conv => whnf)
    | (refine mulG ?_; conv => whnf)
    | (refine And.intro rfl ?_; conv => whnf)
    | (refine dsT (by assumption) ?_; conv => whnf)
    | (refine dsF (by assumption) ?_; conv => whnf)
    | (refine nsT (by assumption) ?_; conv => whnf)
    | (refine nsF (by assumption) ?_; conv => whnf)
    | (refine bsT (by assumption) ?_; conv => whnf)
    | (refine bsF (by assumption) ?_; conv => whnf)
    | (refine dsp ?_ ?_ <;> intro _ <;> conv => whnf)
    | (refine nsp ?_ ?_ <;> intro _ <;> conv => whnf)
    | (refine cnd_true (by assumption) ?_; conv => whnf)
    | (refine cnd_false (by assumption) ?_; conv => whnf)
    | (refine cnd_split ?_ ?_ <;> intro _ <;> conv => whnf)
    | (refine Cd.par tabOk (by kernel_rfl) (by kernel_rfl) ?_; conv => whnf)
    | rfl
    | exact True.intro
    | (refine And.intro ?_ ?_ <;> conv => whnf)
    | (refine Tr.of_body tabOk q_frame_forms (by kernel_rfl) ?_; conv => whnf)
    | (refine Fc.use (c_digest_Put f.l0 f.l1 f.l2 f.l3) ?_ ?_; (focus ((repeat' constructor); done)); conv => whnf)
    | (refine CallQ.of (c_digest_Put f.l0 f.l1 f.l2 f.l3) ?_ ?_; (focus ((repeat' constructor); done)); conv => whnf)
    | (refine Fc.use (c_odd_frame f.es hb (by omega)) ?_ ?_; (focus ((repeat' constructor); done)); conv => whnf)
    | (refine CallQ.of (c_odd_frame f.es hb (by omega)) ?_ ?_; (focus ((repeat' constructor); done)); conv => whnf))
  all_goals try simp only [List.length_map] at *
  all_goals first
    | (refine enF (fun h => ?_); simp only [fr6] at h; first | (exfalso; omega) | grind)
    | (refine enT ?_; simp only [fr6]; grind)
def fr7 (f : Fra) : Prop := digOk f.l0 f.l1 f.l2 f.l3 ∧ 0 ≤ f.a ∧ f.a ≤ 2147483647 ∧ 0 ≤ f.b ∧ f.b ≤ 0 ∧ [f.l0, f.l1, f.l2, f.l3] = [0, 0, 0, 0] ∧ (f.es.length : Int) = 0 ∧ (f.es.length : Int) ≤ 8 ∧ ∀ e ∈ f.es, entOk e
instance (f : Fra) : Decidable (fr7 f) := by unfold fr7; infer_instance
theorem c_frame_Check7 (f : Fra) (hf : f.bd) (ht : f.typ = 7) : Fc Tryz.prog n_frame_Check [f.sv] (en (fr7 f)) := by
  obtain ⟨hb, hl⟩ := hf
  have n1 : ¬ f.typ = 1 := by omega
  have n2 : ¬ f.typ = 2 := by omega
  have n3 : ¬ f.typ = 3 := by omega
  have n4 : ¬ f.typ = 4 := by omega
  have n5 : ¬ f.typ = 5 := by omega
  have n6 : ¬ f.typ = 6 := by omega
  refine Fc.of_body tabOk q_frame_Check (by kernel_rfl) ((blwL_one (blw_fra 0 f))) (rfl) ?_
  conv => whnf
  refine Cd.parT tabOk (by kernel_rfl) [0, 7, 8] (by kernel_rfl) ?_
  conv => whnf
  repeat' (first
    | (refine agg4 ?_; conv => whnf)
    | (refine bltG (by first | omega | (simp only [List.length_map] at *; omega)) ?_; conv => whnf)
    | (refine ndG (by assumption) ?_; conv => whnf)
    | (refine mulG ?_; conv => whnf)
    | (refine And.intro rfl ?_; conv => whnf)
    | (refine dsT (by assumption) ?_; conv => whnf)
    | (refine dsF (by assumption) ?_; conv => whnf)
    | (refine nsT (by assumption) ?_; conv => whnf)
    | (refine nsF (by assumption) ?_; conv => whnf)
    | (refine bsT (by assumption) ?_; conv => whnf)
    | (refine bsF (by assumption) ?_; conv => whnf)
    | (refine dsp ?_ ?_ <;> intro _ <;> conv => whnf)
    | (refine nsp ?_ ?_ <;> intro _ <;> conv => whnf)
    | (refine cnd_true (by assumption) ?_; conv => whnf)
    | (refine cnd_false (by assumption) ?_; conv => whnf)
    | (refine cnd_split ?_ ?_ <;> intro _ <;> conv => whnf)
    | (refine Cd.par tabOk (by kernel_rfl) (by kernel_rfl) ?_; conv => whnf)
    | rfl
    | exact True.intro
    | (refine And.intro ?_ ?_ <;> conv => whnf)
    | (refine Tr.of_body tabOk q_frame_forms (by kernel_rfl) ?_; conv => whnf)
    | (refine Fc.use (c_digest_Put f.l0 f.l1 f.l2 f.l3) ?_ ?_; (focus ((repeat' constructor); done)); conv => whnf)
    | (refine CallQ.of (c_digest_Put f.l0 f.l1 f.l2 f.l3) ?_ ?_; (focus ((repeat' constructor); done)); conv => whnf)
    | (refine Fc.use (c_odd_frame f.es hb (by omega)) ?_ ?_; (focus ((repeat' constructor); done)); conv => whnf)
    | (refine CallQ.of (c_odd_frame f.es hb (by omega)) ?_ ?_; (focus ((repeat' constructor); done)); conv => whnf))
  all_goals try simp only [List.length_map] at *
  all_goals first
    | (refine enF (fun h => ?_); simp only [fr7] at h; first | (exfalso; omega) | grind)
    | (refine enT ?_; simp only [fr7]; grind)
end Go.Proofs.YtmjpidjdbofdjaaGreat
namespace Go.Proofs.YtmjpidjdbofdjaaGreat
open Go Go.Sy
theorem c_frame_Check0 (f : Fra) (hf : f.bd) (ht : f.typ < 1 ∨ 7 < f.typ) : Fc Tryz.prog n_frame_Check [f.sv] (en False) := by
  obtain ⟨hb, hl⟩ := hf
  have n1 : ¬ f.typ = 1 := by omega
  have n2 : ¬ f.typ = 2 := by omega
  have n3 : ¬ f.typ = 3 := by omega
  have n4 : ¬ f.typ = 4 := by omega
  have n5 : ¬ f.typ = 5 := by omega
  have n6 : ¬ f.typ = 6 := by omega
  have n7 : ¬ f.typ = 7 := by omega
  refine Fc.of_body tabOk q_frame_Check (by kernel_rfl) ((blwL_one (blw_fra 0 f))) (rfl) ?_
  conv => whnf
  refine Cd.parT tabOk (by kernel_rfl) [0, 7, 8] (by kernel_rfl) ?_
  conv => whnf
  repeat' (first
    | (refine agg4 ?_; conv => whnf)
    | (refine bltG (by first | omega | (simp only [List.length_map] at *; omega)) ?_; conv => whnf)
    | (refine ndG (by assumption) ?_; conv => whnf)
    | (refine mulG ?_; conv => whnf)
    | (refine And.intro rfl ?_; conv => whnf)
    | (refine dsT (by assumption) ?_; conv => whnf)
    | (refine dsF (by assumption) ?_; conv => whnf)
    | (refine nsT (by assumption) ?_; conv => whnf)
    | (refine nsF (by assumption) ?_; conv => whnf)
    | (refine bsT (by assumption) ?_; conv => whnf)
    | (refine bsF (by assumption) ?_; conv => whnf)
    | (refine dsp ?_ ?_ <;> intro _ <;> conv => whnf)
    | (refine nsp ?_ ?_ <;> intro _ <;> conv => whnf)
    | (refine cnd_true (by assumption) ?_; conv => whnf)
    | (refine cnd_false (by assumption) ?_; conv => whnf)
    | (refine cnd_split ?_ ?_ <;> intro _ <;> conv => whnf)
    | (refine Cd.par tabOk (by kernel_rfl) (by kernel_rfl) ?_; conv => whnf)
    | rfl
    | exact True.intro
    | (refine And.intro ?_ ?_ <;> conv => whnf)
    | (refine Tr.of_body tabOk q_frame_forms (by kernel_rfl) ?_; conv => whnf)
    | (refine Fc.use (c_digest_Put f.l0 f.l1 f.l2 f.l3) ?_ ?_; (focus ((repeat' constructor); done)); conv => whnf)
    | (refine CallQ.of (c_digest_Put f.l0 f.l1 f.l2 f.l3) ?_ ?_; (focus ((repeat' constructor); done)); conv => whnf)
    | (refine Fc.use (c_odd_frame f.es hb (by omega)) ?_ ?_; (focus ((repeat' constructor); done)); conv => whnf)
    | (refine CallQ.of (c_odd_frame f.es hb (by omega)) ?_ ?_; (focus ((repeat' constructor); done)); conv => whnf))
def frOk (f : Fra) : Prop := (f.typ = 1 ∧ fr1 f) ∨ (f.typ = 2 ∧ fr2 f) ∨ (f.typ = 3 ∧ fr3 f) ∨ (f.typ = 4 ∧ fr4 f) ∨ (f.typ = 5 ∧ fr5 f) ∨ (f.typ = 6 ∧ fr6 f) ∨ (f.typ = 7 ∧ fr7 f)
instance (f : Fra) : Decidable (frOk f) := by unfold frOk; infer_instance
theorem en_congr {p q : Prop} [Decidable p] [Decidable q] (h : p ↔ q) : en p = en q := by
  unfold en; by_cases hp : p
  · rw [if_pos hp, if_pos (h.1 hp)]
  · rw [if_neg hp, if_neg (fun hq => hp (h.2 hq))]
theorem c_frame_Check (f : Fra) (hf : f.bd) : Fc Tryz.prog n_frame_Check [f.sv] (en (frOk f)) := by
  by_cases h1 : f.typ = 1
  · rw [en_congr (show frOk f ↔ fr1 f by unfold frOk; constructor <;> intro h <;> grind)]; exact c_frame_Check1 f hf h1
  by_cases h2 : f.typ = 2
  · rw [en_congr (show frOk f ↔ fr2 f by unfold frOk; constructor <;> intro h <;> grind)]; exact c_frame_Check2 f hf h2
  by_cases h3 : f.typ = 3
  · rw [en_congr (show frOk f ↔ fr3 f by unfold frOk; constructor <;> intro h <;> grind)]; exact c_frame_Check3 f hf h3
  by_cases h4 : f.typ = 4
  · rw [en_congr (show frOk f ↔ fr4 f by unfold frOk; constructor <;> intro h <;> grind)]; exact c_frame_Check4 f hf h4
  by_cases h5 : f.typ = 5
  · rw [en_congr (show frOk f ↔ fr5 f by unfold frOk; constructor <;> intro h <;> grind)]; exact c_frame_Check5 f hf h5
  by_cases h6 : f.typ = 6
  · rw [en_congr (show frOk f ↔ fr6 f by unfold frOk; constructor <;> intro h <;> grind)]; exact c_frame_Check6 f hf h6
  by_cases h7 : f.typ = 7
  · rw [en_congr (show frOk f ↔ fr7 f by unfold frOk; constructor <;> intro h <;> grind)]; exact c_frame_Check7 f hf h7
  rw [en_congr (show frOk f ↔ False by unfold frOk; constructor <;> intro h <;> grind)]; exact c_frame_Check0 f hf (by omega)
end Go.Proofs.YtmjpidjdbofdjaaGreat

