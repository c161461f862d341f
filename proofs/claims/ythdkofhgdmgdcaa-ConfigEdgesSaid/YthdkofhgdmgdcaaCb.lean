import Derived.Test.YthdkofhgdmgdcaaCa
/- Contracts: config's numbers; the law ConfigEdges. -/
set_option linter.unusedVariables false
set_option linter.unusedSimpArgs false
set_option maxRecDepth 100000
set_option maxHeartbeats 1600000
namespace Go.Proofs.Ythdkofhgdmgdcaa
open Go Go.Sy
def P0 : Cf := ⟨3, 5, 3, 10, 2, 2, 3, 1000⟩
def P7 : Cf := ⟨3, 5, 3, 7, 2, 2, 3, 1000⟩
def PZ : Cf := ⟨0, 0, 0, 0, 0, 0, 0, 0⟩
theorem k_P0 : Fc Try.prog n_config_Check [P0.sv] (iv 0) := by
  have h := c_config_Check P0
  rwa [ck_y (by decide)] at h
theorem k_P7 : Fc Try.prog n_config_Check [P7.sv] (iv 1) := by
  have h := c_config_Check P7
  rwa [ck_n (by decide)] at h
theorem k_PZ : Fc Try.prog n_config_Check [PZ.sv] (iv 1) := by
  have h := c_config_Check PZ
  rwa [ck_n (by decide)] at h
theorem c_config_Size : Fc Try.prog n_config_Size [P0.sv] (iv 920) := by
  refine Fc.of_body tabOk q_config_Size (by kernel_rfl) (rfl) (rfl) ?_
  conv => whnf
  repeat' (first
    | (refine bltG (by first | omega | (simp only [List.length_map] at *; omega)) ?_; conv => whnf)
    | (refine ndG (by assumption) ?_; conv => whnf)
    | (refine mulG ?_; conv => whnf)
    | (refine And.intro rfl ?_; conv => whnf)
    | (refine dsT (by assumption) ?_; conv => whnf)
    | (refine dsF (by assumption) ?_; conv => whnf)
    | (refine nsT (by assumption) ?_; conv => whnf)
    | (refine nsF (by assumption) ?_; conv => whnf)
    | (refine bsT (by assumption) ?_; conv => whnf)
    | (refine bsF (by assumption) ?_; conv => whnf)
    | (refine dsp ?_ ?_ <;> intro _ <;> conv => whnf)
    | (refine nsp ?_ ?_ <;> intro _ <;> conv => whnf)
    | (refine cnd_true (by assumption) ?_; conv => whnf)
    | (refine cnd_false (by assumption) ?_; conv => whnf)
    | (refine cnd_split ?_ ?_ <;> intro _ <;> conv => whnf)
    | (refine Cd.par tabOk (by kernel_rfl) (by kernel_rfl) ?_; conv => whnf)
    | (refine Fc.use (k_P0) ?_ ?_; (focus ((repeat' constructor); done)); conv => whnf)
    | (refine CallQ.of (k_P0) ?_ ?_; (focus ((repeat' constructor); done)); conv => whnf)
    | (refine Fc.use (c_record_Size) ?_ ?_; (focus ((repeat' constructor); done)); conv => whnf)
    | (refine CallQ.of (c_record_Size) ?_ ?_; (focus ((repeat' constructor); done)); conv => whnf)
    | (refine Tr.of_body tabOk q_config_told (by kernel_rfl) ?_; conv => whnf)
    | (refine Tr.of_body tabOk q_config_Size_1 (by kernel_rfl) ?_; conv => whnf))
  all_goals rfl
theorem c_config_Chunks : Fc Try.prog n_config_Chunks [P0.sv] (iv 3) := by
  refine Fc.of_body tabOk q_config_Chunks (by kernel_rfl) (rfl) (rfl) ?_
  conv => whnf
  repeat' (first
    | (refine bltG (by first | omega | (simp only [List.length_map] at *; omega)) ?_; conv => whnf)
    | (refine ndG (by assumption) ?_; conv => whnf)
    | (refine mulG ?_; conv => whnf)
    | (refine And.intro rfl ?_; conv => whnf)
    | (refine dsT (by assumption) ?_; conv => whnf)
    | (refine dsF (by assumption) ?_; conv => whnf)
    | (refine nsT (by assumption) ?_; conv => whnf)
    | (refine nsF (by assumption) ?_; conv => whnf)
    | (refine bsT (by assumption) ?_; conv => whnf)
    | (refine bsF (by assumption) ?_; conv => whnf)
    | (refine dsp ?_ ?_ <;> intro _ <;> conv => whnf)
    | (refine nsp ?_ ?_ <;> intro _ <;> conv => whnf)
    | (refine cnd_true (by assumption) ?_; conv => whnf)
    | (refine cnd_false (by assumption) ?_; conv => whnf)
    | (refine cnd_split ?_ ?_ <;> intro _ <;> conv => whnf)
    | (refine Cd.par tabOk (by kernel_rfl) (by kernel_rfl) ?_; conv => whnf)
    | (refine Fc.use (k_P0) ?_ ?_; (focus ((repeat' constructor); done)); conv => whnf)
    | (refine CallQ.of (k_P0) ?_ ?_; (focus ((repeat' constructor); done)); conv => whnf)
    | (refine Tr.of_body tabOk q_config_told (by kernel_rfl) ?_; conv => whnf)
    | (refine Tr.of_body tabOk q_config_Chunks_1 (by kernel_rfl) ?_; conv => whnf))
  all_goals rfl
theorem c_config_Rounds : Fc Try.prog n_config_Rounds [P0.sv] (iv 12) := by
  refine Fc.of_body tabOk q_config_Rounds (by kernel_rfl) (rfl) (rfl) ?_
  conv => whnf
  repeat' (first
    | (refine bltG (by first | omega | (simp only [List.length_map] at *; omega)) ?_; conv => whnf)
    | (refine ndG (by assumption) ?_; conv => whnf)
    | (refine mulG ?_; conv => whnf)
    | (refine And.intro rfl ?_; conv => whnf)
    | (refine dsT (by assumption) ?_; conv => whnf)
    | (refine dsF (by assumption) ?_; conv => whnf)
    | (refine nsT (by assumption) ?_; conv => whnf)
    | (refine nsF (by assumption) ?_; conv => whnf)
    | (refine bsT (by assumption) ?_; conv => whnf)
    | (refine bsF (by assumption) ?_; conv => whnf)
    | (refine dsp ?_ ?_ <;> intro _ <;> conv => whnf)
    | (refine nsp ?_ ?_ <;> intro _ <;> conv => whnf)
    | (refine cnd_true (by assumption) ?_; conv => whnf)
    | (refine cnd_false (by assumption) ?_; conv => whnf)
    | (refine cnd_split ?_ ?_ <;> intro _ <;> conv => whnf)
    | (refine Cd.par tabOk (by kernel_rfl) (by kernel_rfl) ?_; conv => whnf)
    | (refine Fc.use (k_P0) ?_ ?_; (focus ((repeat' constructor); done)); conv => whnf)
    | (refine CallQ.of (k_P0) ?_ ?_; (focus ((repeat' constructor); done)); conv => whnf)
    | (refine Tr.of_body tabOk q_config_told (by kernel_rfl) ?_; conv => whnf)
    | (refine Tr.of_body tabOk q_config_Rounds_1 (by kernel_rfl) ?_; conv => whnf)
    | (refine Fc.use (c_config_Chunks) ?_ ?_; (focus ((repeat' constructor); done)); conv => whnf)
    | (refine CallQ.of (c_config_Chunks) ?_ ?_; (focus ((repeat' constructor); done)); conv => whnf))
  all_goals rfl
theorem c_config_Work : Fc Try.prog n_config_Work [P0.sv] (iv 110) := by
  refine Fc.of_body tabOk q_config_Work (by kernel_rfl) (rfl) (rfl) ?_
  conv => whnf
  repeat' (first
    | (refine bltG (by first | omega | (simp only [List.length_map] at *; omega)) ?_; conv => whnf)
    | (refine ndG (by assumption) ?_; conv => whnf)
    | (refine mulG ?_; conv => whnf)
    | (refine And.intro rfl ?_; conv => whnf)
    | (refine dsT (by assumption) ?_; conv => whnf)
    | (refine dsF (by assumption) ?_; conv => whnf)
    | (refine nsT (by assumption) ?_; conv => whnf)
    | (refine nsF (by assumption) ?_; conv => whnf)
    | (refine bsT (by assumption) ?_; conv => whnf)
    | (refine bsF (by assumption) ?_; conv => whnf)
    | (refine dsp ?_ ?_ <;> intro _ <;> conv => whnf)
    | (refine nsp ?_ ?_ <;> intro _ <;> conv => whnf)
    | (refine cnd_true (by assumption) ?_; conv => whnf)
    | (refine cnd_false (by assumption) ?_; conv => whnf)
    | (refine cnd_split ?_ ?_ <;> intro _ <;> conv => whnf)
    | (refine Cd.par tabOk (by kernel_rfl) (by kernel_rfl) ?_; conv => whnf)
    | (refine Fc.use (k_P0) ?_ ?_; (focus ((repeat' constructor); done)); conv => whnf)
    | (refine CallQ.of (k_P0) ?_ ?_; (focus ((repeat' constructor); done)); conv => whnf)
    | (refine Tr.of_body tabOk q_config_told (by kernel_rfl) ?_; conv => whnf)
    | (refine Tr.of_body tabOk q_config_Work_1 (by kernel_rfl) ?_; conv => whnf))
  all_goals rfl
theorem c_config_Foot : Fc Try.prog n_config_Footprint [P0.sv] (.agg [iv 3, iv 920, iv 5, iv 4, iv 6, iv 3]) := by
  refine Fc.of_body tabOk q_config_Footprint (by kernel_rfl) (rfl) (rfl) ?_
  conv => whnf
  repeat' (first
    | (refine bltG (by first | omega | (simp only [List.length_map] at *; omega)) ?_; conv => whnf)
    | (refine ndG (by assumption) ?_; conv => whnf)
    | (refine mulG ?_; conv => whnf)
    | (refine And.intro rfl ?_; conv => whnf)
    | (refine dsT (by assumption) ?_; conv => whnf)
    | (refine dsF (by assumption) ?_; conv => whnf)
    | (refine nsT (by assumption) ?_; conv => whnf)
    | (refine nsF (by assumption) ?_; conv => whnf)
    | (refine bsT (by assumption) ?_; conv => whnf)
    | (refine bsF (by assumption) ?_; conv => whnf)
    | (refine dsp ?_ ?_ <;> intro _ <;> conv => whnf)
    | (refine nsp ?_ ?_ <;> intro _ <;> conv => whnf)
    | (refine cnd_true (by assumption) ?_; conv => whnf)
    | (refine cnd_false (by assumption) ?_; conv => whnf)
    | (refine cnd_split ?_ ?_ <;> intro _ <;> conv => whnf)
    | (refine Cd.par tabOk (by kernel_rfl) (by kernel_rfl) ?_; conv => whnf)
    | (refine Fc.use (k_P0) ?_ ?_; (focus ((repeat' constructor); done)); conv => whnf)
    | (refine CallQ.of (k_P0) ?_ ?_; (focus ((repeat' constructor); done)); conv => whnf)
    | (refine Fc.use (c_config_Size) ?_ ?_; (focus ((repeat' constructor); done)); conv => whnf)
    | (refine CallQ.of (c_config_Size) ?_ ?_; (focus ((repeat' constructor); done)); conv => whnf)
    | rfl
    | exact True.intro
    | (refine And.intro ?_ ?_ <;> conv => whnf))
theorem c_config_Foot7 : Fc Try.prog n_config_Footprint [P7.sv] (.agg [iv 0, iv 0, iv 0, iv 0, iv 0, iv 0]) := by
  refine Fc.of_body tabOk q_config_Footprint (by kernel_rfl) (rfl) (rfl) ?_
  conv => whnf
  repeat' (first
    | (refine bltG (by first | omega | (simp only [List.length_map] at *; omega)) ?_; conv => whnf)
    | (refine ndG (by assumption) ?_; conv => whnf)
    | (refine mulG ?_; conv => whnf)
    | (refine And.intro rfl ?_; conv => whnf)
    | (refine dsT (by assumption) ?_; conv => whnf)
    | (refine dsF (by assumption) ?_; conv => whnf)
    | (refine nsT (by assumption) ?_; conv => whnf)
    | (refine nsF (by assumption) ?_; conv => whnf)
    | (refine bsT (by assumption) ?_; conv => whnf)
    | (refine bsF (by assumption) ?_; conv => whnf)
    | (refine dsp ?_ ?_ <;> intro _ <;> conv => whnf)
    | (refine nsp ?_ ?_ <;> intro _ <;> conv => whnf)
    | (refine cnd_true (by assumption) ?_; conv => whnf)
    | (refine cnd_false (by assumption) ?_; conv => whnf)
    | (refine cnd_split ?_ ?_ <;> intro _ <;> conv => whnf)
    | (refine Cd.par tabOk (by kernel_rfl) (by kernel_rfl) ?_; conv => whnf)
    | (refine Fc.use (k_P7) ?_ ?_; (focus ((repeat' constructor); done)); conv => whnf)
    | (refine CallQ.of (k_P7) ?_ ?_; (focus ((repeat' constructor); done)); conv => whnf)
    | rfl
    | exact True.intro
    | (refine And.intro ?_ ?_ <;> conv => whnf))
theorem c_Plain : Fc Try.prog n_ouroboroslaw11_Plain [] P0.sv := by
  refine Fc.of_body tabOk q_ouroboroslaw11_Plain (by kernel_rfl) (rfl) (rfl) ?_
  conv => whnf
  repeat' (first
    | (refine bltG (by first | omega | (simp only [List.length_map] at *; omega)) ?_; conv => whnf)
    | (refine ndG (by assumption) ?_; conv => whnf)
    | (refine mulG ?_; conv => whnf)
    | (refine And.intro rfl ?_; conv => whnf)
    | (refine dsT (by assumption) ?_; conv => whnf)
    | (refine dsF (by assumption) ?_; conv => whnf)
    | (refine nsT (by assumption) ?_; conv => whnf)
    | (refine nsF (by assumption) ?_; conv => whnf)
    | (refine bsT (by assumption) ?_; conv => whnf)
    | (refine bsF (by assumption) ?_; conv => whnf)
    | (refine dsp ?_ ?_ <;> intro _ <;> conv => whnf)
    | (refine nsp ?_ ?_ <;> intro _ <;> conv => whnf)
    | (refine cnd_true (by assumption) ?_; conv => whnf)
    | (refine cnd_false (by assumption) ?_; conv => whnf)
    | (refine cnd_split ?_ ?_ <;> intro _ <;> conv => whnf)
    | (refine Cd.par tabOk (by kernel_rfl) (by kernel_rfl) ?_; conv => whnf)
    | rfl
    | exact True.intro
    | (refine And.intro ?_ ?_ <;> conv => whnf))
noncomputable def info3 : TypeInfo := (Try.prog.info? t_int).getD default
theorem info3_eq : Try.prog.info? t_int = some info3 := by kernel_rfl
theorem agg6 {a b c d e f a' b' c' d' e' f' : Int} {K : Bool → Prop} (h : K (decide ([a, b, c, d, e, f] = [a', b', c', d', e', f']))) : AggEq Try.prog .eql t_6_int [iv a, iv b, iv c, iv d, iv e, iv f] [iv a', iv b', iv c', iv d', iv e', iv f'] K :=
  AggEq.ints (xs := [a, b, c, d, e, f]) (ys := [a', b', c', d', e', f']) u_6_int u_int info3_eq (by kernel_rfl) (by kernel_rfl) rfl rfl h
theorem c_works : Fc Try.prog n_ouroboroslaw11_works [] (sb true) := by
  refine Fc.of_body tabOk q_ouroboroslaw11_works (by kernel_rfl) (rfl) (rfl) ?_
  conv => whnf
  repeat' (first
    | (refine agg6 ?_; conv => whnf)
    | (refine bltG (by first | omega | (simp only [List.length_map] at *; omega)) ?_; conv => whnf)
    | (refine ndG (by assumption) ?_; conv => whnf)
    | (refine mulG ?_; conv => whnf)
    | (refine And.intro rfl ?_; conv => whnf)
    | (refine dsT (by assumption) ?_; conv => whnf)
    | (refine dsF (by assumption) ?_; conv => whnf)
    | (refine nsT (by assumption) ?_; conv => whnf)
    | (refine nsF (by assumption) ?_; conv => whnf)
    | (refine bsT (by assumption) ?_; conv => whnf)
    | (refine bsF (by assumption) ?_; conv => whnf)
    | (refine dsp ?_ ?_ <;> intro _ <;> conv => whnf)
    | (refine nsp ?_ ?_ <;> intro _ <;> conv => whnf)
    | (refine cnd_true (by assumption) ?_; conv => whnf)
    | (refine cnd_false (by assumption) ?_; conv => whnf)
    | (refine cnd_split ?_ ?_ <;> intro _ <;> conv => whnf)
    | (refine Cd.par tabOk (by kernel_rfl) (by kernel_rfl) ?_; conv => whnf)
    | (refine Fc.use (k_P0) ?_ ?_; (focus ((repeat' constructor); done)); conv => whnf)
    | (refine CallQ.of (k_P0) ?_ ?_; (focus ((repeat' constructor); done)); conv => whnf)
    | (refine Fc.use (k_P7) ?_ ?_; (focus ((repeat' constructor); done)); conv => whnf)
    | (refine CallQ.of (k_P7) ?_ ?_; (focus ((repeat' constructor); done)); conv => whnf)
    | (refine Fc.use (k_PZ) ?_ ?_; (focus ((repeat' constructor); done)); conv => whnf)
    | (refine CallQ.of (k_PZ) ?_ ?_; (focus ((repeat' constructor); done)); conv => whnf)
    | (refine Fc.use (c_config_Size) ?_ ?_; (focus ((repeat' constructor); done)); conv => whnf)
    | (refine CallQ.of (c_config_Size) ?_ ?_; (focus ((repeat' constructor); done)); conv => whnf)
    | (refine Fc.use (c_config_Chunks) ?_ ?_; (focus ((repeat' constructor); done)); conv => whnf)
    | (refine CallQ.of (c_config_Chunks) ?_ ?_; (focus ((repeat' constructor); done)); conv => whnf)
    | (refine Fc.use (c_config_Rounds) ?_ ?_; (focus ((repeat' constructor); done)); conv => whnf)
    | (refine CallQ.of (c_config_Rounds) ?_ ?_; (focus ((repeat' constructor); done)); conv => whnf)
    | (refine Fc.use (c_config_Work) ?_ ?_; (focus ((repeat' constructor); done)); conv => whnf)
    | (refine CallQ.of (c_config_Work) ?_ ?_; (focus ((repeat' constructor); done)); conv => whnf)
    | (refine Fc.use (c_config_Foot) ?_ ?_; (focus ((repeat' constructor); done)); conv => whnf)
    | (refine CallQ.of (c_config_Foot) ?_ ?_; (focus ((repeat' constructor); done)); conv => whnf)
    | (refine Fc.use (c_config_Foot7) ?_ ?_; (focus ((repeat' constructor); done)); conv => whnf)
    | (refine CallQ.of (c_config_Foot7) ?_ ?_; (focus ((repeat' constructor); done)); conv => whnf)
    | (refine Fc.use (c_Plain) ?_ ?_; (focus ((repeat' constructor); done)); conv => whnf)
    | (refine CallQ.of (c_Plain) ?_ ?_; (focus ((repeat' constructor); done)); conv => whnf))
  all_goals rfl
theorem c_EdgesN (x : Cf) (w : Int) (hc : ¬ cok x) : Fc Try.prog n_ouroboroslaw11_ConfigEdges [x.sv, .v (.int .u8 w)] (sb true) := by
  have k := c_config_Check x
  rw [ck_n hc] at k
  refine Fc.of_body tabOk q_ouroboroslaw11_ConfigEdges (by kernel_rfl) (rfl) (rfl) ?_
  conv => whnf
  repeat' (first
    | (refine bltG (by first | omega | (simp only [List.length_map] at *; omega)) ?_; conv => whnf)
    | (refine ndG (by assumption) ?_; conv => whnf)
    | (refine mulG ?_; conv => whnf)
    | (refine And.intro rfl ?_; conv => whnf)
    | (refine dsT (by assumption) ?_; conv => whnf)
    | (refine dsF (by assumption) ?_; conv => whnf)
    | (refine nsT (by assumption) ?_; conv => whnf)
    | (refine nsF (by assumption) ?_; conv => whnf)
    | (refine bsT (by assumption) ?_; conv => whnf)
    | (refine bsF (by assumption) ?_; conv => whnf)
    | (refine dsp ?_ ?_ <;> intro _ <;> conv => whnf)
    | (refine nsp ?_ ?_ <;> intro _ <;> conv => whnf)
    | (refine cnd_true (by assumption) ?_; conv => whnf)
    | (refine cnd_false (by assumption) ?_; conv => whnf)
    | (refine cnd_split ?_ ?_ <;> intro _ <;> conv => whnf)
    | (refine Cd.par tabOk (by kernel_rfl) (by kernel_rfl) ?_; conv => whnf)
    | (refine Fc.use (c_works) ?_ ?_; (focus ((repeat' constructor); done)); conv => whnf)
    | (refine CallQ.of (c_works) ?_ ?_; (focus ((repeat' constructor); done)); conv => whnf)
    | (refine Fc.use (k) ?_ ?_; (focus ((repeat' constructor); done)); conv => whnf)
    | (refine CallQ.of (k) ?_ ?_; (focus ((repeat' constructor); done)); conv => whnf))
  all_goals rfl
theorem c_Edges0 (x : Cf) (w : Int) (hc : cok x) (hw : w.tmod 7 = 0) : Fc Try.prog n_ouroboroslaw11_ConfigEdges [x.sv, .v (.int .u8 w)] (sb true) := by
  have k := c_config_Check x
  rw [ck_y hc] at k
  have k0 := c_config_Check ⟨2, x.b, x.c, x.d, x.e, x.f, x.g, x.h⟩
  rw [ck_y (by unfold cok at *; dsimp only at *; omega)] at k0
  have k1 := c_config_Check ⟨8, x.b, x.c, x.d, x.e, x.f, x.g, x.h⟩
  rw [ck_y (by unfold cok at *; dsimp only at *; omega)] at k1
  have k2 := c_config_Check ⟨1, x.b, x.c, x.d, x.e, x.f, x.g, x.h⟩
  rw [ck_n (by unfold cok at *; dsimp only at *; omega)] at k2
  have k3 := c_config_Check ⟨9, x.b, x.c, x.d, x.e, x.f, x.g, x.h⟩
  rw [ck_n (by unfold cok at *; dsimp only at *; omega)] at k3
  obtain ⟨a, b, c, d, e, f, g, h⟩ := x
  dsimp only at *
  clear hc
  refine Fc.of_body tabOk q_ouroboroslaw11_ConfigEdges (by kernel_rfl) (rfl) (rfl) ?_
  conv => whnf
  repeat' (first
    | (refine bltG (by first | omega | (simp only [List.length_map] at *; omega)) ?_; conv => whnf)
    | (refine ndG (by assumption) ?_; conv => whnf)
    | (refine mulG ?_; conv => whnf)
    | (refine And.intro rfl ?_; conv => whnf)
    | (refine dsT (by assumption) ?_; conv => whnf)
    | (refine dsF (by assumption) ?_; conv => whnf)
    | (refine nsT (by assumption) ?_; conv => whnf)
    | (refine nsF (by assumption) ?_; conv => whnf)
    | (refine bsT (by assumption) ?_; conv => whnf)
    | (refine bsF (by assumption) ?_; conv => whnf)
    | (refine dsp ?_ ?_ <;> intro _ <;> conv => whnf)
    | (refine nsp ?_ ?_ <;> intro _ <;> conv => whnf)
    | (refine cnd_true (by assumption) ?_; conv => whnf)
    | (refine cnd_false (by assumption) ?_; conv => whnf)
    | (refine cnd_split ?_ ?_ <;> intro _ <;> conv => whnf)
    | (refine Cd.par tabOk (by kernel_rfl) (by kernel_rfl) ?_; conv => whnf)
    | (refine Fc.use (c_works) ?_ ?_; (focus ((repeat' constructor); done)); conv => whnf)
    | (refine CallQ.of (c_works) ?_ ?_; (focus ((repeat' constructor); done)); conv => whnf)
    | (refine Fc.use (k) ?_ ?_; (focus ((repeat' constructor); done)); conv => whnf)
    | (refine CallQ.of (k) ?_ ?_; (focus ((repeat' constructor); done)); conv => whnf)
    | (refine Fc.use (k0) ?_ ?_; (focus ((repeat' constructor); done)); conv => whnf)
    | (refine CallQ.of (k0) ?_ ?_; (focus ((repeat' constructor); done)); conv => whnf)
    | (refine Fc.use (k1) ?_ ?_; (focus ((repeat' constructor); done)); conv => whnf)
    | (refine CallQ.of (k1) ?_ ?_; (focus ((repeat' constructor); done)); conv => whnf)
    | (refine Fc.use (k2) ?_ ?_; (focus ((repeat' constructor); done)); conv => whnf)
    | (refine CallQ.of (k2) ?_ ?_; (focus ((repeat' constructor); done)); conv => whnf)
    | (refine Fc.use (k3) ?_ ?_; (focus ((repeat' constructor); done)); conv => whnf)
    | (refine CallQ.of (k3) ?_ ?_; (focus ((repeat' constructor); done)); conv => whnf))
  all_goals first | rfl | omega | skip
  all_goals trace_state
theorem c_Edges1 (x : Cf) (w : Int) (hc : cok x) (hw : w.tmod 7 = 1) : Fc Try.prog n_ouroboroslaw11_ConfigEdges [x.sv, .v (.int .u8 w)] (sb true) := by
  have k := c_config_Check x
  rw [ck_y hc] at k
  have k0 := c_config_Check ⟨x.a, x.b, 3, x.d, x.e, x.f, x.g, x.h⟩
  rw [ck_y (by unfold cok at *; dsimp only at *; omega)] at k0
  have k1 := c_config_Check ⟨x.a, x.b, 6, x.d, x.e, x.f, x.g, x.h⟩
  rw [ck_y (by unfold cok at *; dsimp only at *; omega)] at k1
  have k2 := c_config_Check ⟨x.a, x.b, 2, x.d, x.e, x.f, x.g, x.h⟩
  rw [ck_n (by unfold cok at *; dsimp only at *; omega)] at k2
  have k3 := c_config_Check ⟨x.a, x.b, 7, x.d, x.e, x.f, x.g, x.h⟩
  rw [ck_n (by unfold cok at *; dsimp only at *; omega)] at k3
  obtain ⟨a, b, c, d, e, f, g, h⟩ := x
  dsimp only at *
  clear hc
  refine Fc.of_body tabOk q_ouroboroslaw11_ConfigEdges (by kernel_rfl) (rfl) (rfl) ?_
  conv => whnf
  repeat' (first
    | (refine bltG (by first | omega | (simp only [List.length_map] at *; omega)) ?_; conv => whnf)
    | (refine ndG (by assumption) ?_; conv => whnf)
    | (refine mulG ?_; conv => whnf)
    | (refine And.intro rfl ?_; conv => whnf)
    | (refine dsT (by assumption) ?_; conv => whnf)
    | (refine dsF (by assumption) ?_; conv => whnf)
    | (refine nsT (by assumption) ?_; conv => whnf)
    | (refine nsF (by assumption) ?_; conv => whnf)
    | (refine bsT (by assumption) ?_; conv => whnf)
    | (refine bsF (by assumption) ?_; conv => whnf)
    | (refine dsp ?_ ?_ <;> intro _ <;> conv => whnf)
    | (refine nsp ?_ ?_ <;> intro _ <;> conv => whnf)
    | (refine cnd_true (by assumption) ?_; conv => whnf)
    | (refine cnd_false (by assumption) ?_; conv => whnf)
    | (refine cnd_split ?_ ?_ <;> intro _ <;> conv => whnf)
    | (refine Cd.par tabOk (by kernel_rfl) (by kernel_rfl) ?_; conv => whnf)
    | (refine Fc.use (c_works) ?_ ?_; (focus ((repeat' constructor); done)); conv => whnf)
    | (refine CallQ.of (c_works) ?_ ?_; (focus ((repeat' constructor); done)); conv => whnf)
    | (refine Fc.use (k) ?_ ?_; (focus ((repeat' constructor); done)); conv => whnf)
    | (refine CallQ.of (k) ?_ ?_; (focus ((repeat' constructor); done)); conv => whnf)
    | (refine Fc.use (k0) ?_ ?_; (focus ((repeat' constructor); done)); conv => whnf)
    | (refine CallQ.of (k0) ?_ ?_; (focus ((repeat' constructor); done)); conv => whnf)
    | (refine Fc.use (k1) ?_ ?_; (focus ((repeat' constructor); done)); conv => whnf)
    | (refine CallQ.of (k1) ?_ ?_; (focus ((repeat' constructor); done)); conv => whnf)
    | (refine Fc.use (k2) ?_ ?_; (focus ((repeat' constructor); done)); conv => whnf)
    | (refine CallQ.of (k2) ?_ ?_; (focus ((repeat' constructor); done)); conv => whnf)
    | (refine Fc.use (k3) ?_ ?_; (focus ((repeat' constructor); done)); conv => whnf)
    | (refine CallQ.of (k3) ?_ ?_; (focus ((repeat' constructor); done)); conv => whnf))
  all_goals first | rfl | omega | skip
  all_goals trace_state
theorem c_Edges2 (x : Cf) (w : Int) (hc : cok x) (hw : w.tmod 7 = 2) : Fc Try.prog n_ouroboroslaw11_ConfigEdges [x.sv, .v (.int .u8 w)] (sb true) := by
  have k := c_config_Check x
  rw [ck_y hc] at k
  have k0 := c_config_Check ⟨x.a, x.b, x.c, (x.b + 3), x.e, x.f, x.g, x.h⟩
  rw [ck_y (by unfold cok at *; dsimp only at *; omega)] at k0
  have k1 := c_config_Check ⟨x.a, x.b, x.c, 24, x.e, x.f, x.g, x.h⟩
  rw [ck_y (by unfold cok at *; dsimp only at *; omega)] at k1
  have k2 := c_config_Check ⟨x.a, x.b, x.c, (x.b + 2), x.e, x.f, x.g, x.h⟩
  rw [ck_n (by unfold cok at *; dsimp only at *; omega)] at k2
  have k3 := c_config_Check ⟨x.a, x.b, x.c, 25, x.e, x.f, x.g, x.h⟩
  rw [ck_n (by unfold cok at *; dsimp only at *; omega)] at k3
  have hb : 1 ≤ x.b ∧ x.b ≤ 8 := ⟨hc.2.2.1, hc.2.2.2.1⟩
  have w3 : IntKind.wrap .i64 (x.b + 3) = x.b + 3 := wrap_i64 (by omega) (by omega)
  have w2 : IntKind.wrap .i64 (x.b + 2) = x.b + 2 := wrap_i64 (by omega) (by omega)
  obtain ⟨a, b, c, d, e, f, g, h⟩ := x
  dsimp only at *
  rw [← w3] at k0
  rw [← w2] at k2
  clear w2 w3 hb
  clear hc
  refine Fc.of_body tabOk q_ouroboroslaw11_ConfigEdges (by kernel_rfl) (rfl) (rfl) ?_
  conv => whnf
  repeat' (first
    | (refine Cd.parT tabOk (by kernel_rfl) [7, 9, 11, 13] (by kernel_rfl) ?_; conv => whnf)
    | (refine bltG (by first | omega | (simp only [List.length_map] at *; omega)) ?_; conv => whnf)
    | (refine ndG (by assumption) ?_; conv => whnf)
    | (refine mulG ?_; conv => whnf)
    | (refine And.intro rfl ?_; conv => whnf)
    | (refine dsT (by assumption) ?_; conv => whnf)
    | (refine dsF (by assumption) ?_; conv => whnf)
    | (refine nsT (by assumption) ?_; conv => whnf)
    | (refine nsF (by assumption) ?_; conv => whnf)
    | (refine bsT (by assumption) ?_; conv => whnf)
    | (refine bsF (by assumption) ?_; conv => whnf)
    | (refine dsp ?_ ?_ <;> intro _ <;> conv => whnf)
    | (refine nsp ?_ ?_ <;> intro _ <;> conv => whnf)
    | (refine cnd_true (by assumption) ?_; conv => whnf)
    | (refine cnd_false (by assumption) ?_; conv => whnf)
    | (refine cnd_split ?_ ?_ <;> intro _ <;> conv => whnf)
    | (refine Cd.par tabOk (by kernel_rfl) (by kernel_rfl) ?_; conv => whnf)
    | (refine Fc.use (c_works) ?_ ?_; (focus ((repeat' constructor); done)); conv => whnf)
    | (refine CallQ.of (c_works) ?_ ?_; (focus ((repeat' constructor); done)); conv => whnf)
    | (refine Fc.use (k) ?_ ?_; (focus ((repeat' constructor); done)); conv => whnf)
    | (refine CallQ.of (k) ?_ ?_; (focus ((repeat' constructor); done)); conv => whnf)
    | (refine Fc.use (k0) ?_ ?_; (focus ((repeat' constructor); done)); conv => whnf)
    | (refine CallQ.of (k0) ?_ ?_; (focus ((repeat' constructor); done)); conv => whnf)
    | (refine Fc.use (k1) ?_ ?_; (focus ((repeat' constructor); done)); conv => whnf)
    | (refine CallQ.of (k1) ?_ ?_; (focus ((repeat' constructor); done)); conv => whnf)
    | (refine Fc.use (k2) ?_ ?_; (focus ((repeat' constructor); done)); conv => whnf)
    | (refine CallQ.of (k2) ?_ ?_; (focus ((repeat' constructor); done)); conv => whnf)
    | (refine Fc.use (k3) ?_ ?_; (focus ((repeat' constructor); done)); conv => whnf)
    | (refine CallQ.of (k3) ?_ ?_; (focus ((repeat' constructor); done)); conv => whnf)
    | rfl
    | exact True.intro
    | (refine And.intro ?_ ?_ <;> conv => whnf))
  all_goals first | rfl | omega | skip
  all_goals trace_state
theorem c_Edges3 (x : Cf) (w : Int) (hc : cok x) (hw : w.tmod 7 = 3) : Fc Try.prog n_ouroboroslaw11_ConfigEdges [x.sv, .v (.int .u8 w)] (sb true) := by
  have k := c_config_Check x
  rw [ck_y hc] at k
  have k0 := c_config_Check ⟨x.a, x.b, x.c, x.d, 1, x.f, x.g, x.h⟩
  rw [ck_y (by unfold cok at *; dsimp only at *; omega)] at k0
  have k1 := c_config_Check ⟨x.a, x.b, x.c, x.d, 4, x.f, x.g, x.h⟩
  rw [ck_y (by unfold cok at *; dsimp only at *; omega)] at k1
  have k2 := c_config_Check ⟨x.a, x.b, x.c, x.d, 0, x.f, x.g, x.h⟩
  rw [ck_n (by unfold cok at *; dsimp only at *; omega)] at k2
  have k3 := c_config_Check ⟨x.a, x.b, x.c, x.d, 5, x.f, x.g, x.h⟩
  rw [ck_n (by unfold cok at *; dsimp only at *; omega)] at k3
  obtain ⟨a, b, c, d, e, f, g, h⟩ := x
  dsimp only at *
  clear hc
  refine Fc.of_body tabOk q_ouroboroslaw11_ConfigEdges (by kernel_rfl) (rfl) (rfl) ?_
  conv => whnf
  repeat' (first
    | (refine bltG (by first | omega | (simp only [List.length_map] at *; omega)) ?_; conv => whnf)
    | (refine ndG (by assumption) ?_; conv => whnf)
    | (refine mulG ?_; conv => whnf)
    | (refine And.intro rfl ?_; conv => whnf)
    | (refine dsT (by assumption) ?_; conv => whnf)
    | (refine dsF (by assumption) ?_; conv => whnf)
    | (refine nsT (by assumption) ?_; conv => whnf)
    | (refine nsF (by assumption) ?_; conv => whnf)
    | (refine bsT (by assumption) ?_; conv => whnf)
    | (refine bsF (by assumption) ?_; conv => whnf)
    | (refine dsp ?_ ?_ <;> intro _ <;> conv => whnf)
    | (refine nsp ?_ ?_ <;> intro _ <;> conv => whnf)
    | (refine cnd_true (by assumption) ?_; conv => whnf)
    | (refine cnd_false (by assumption) ?_; conv => whnf)
    | (refine cnd_split ?_ ?_ <;> intro _ <;> conv => whnf)
    | (refine Cd.par tabOk (by kernel_rfl) (by kernel_rfl) ?_; conv => whnf)
    | (refine Fc.use (c_works) ?_ ?_; (focus ((repeat' constructor); done)); conv => whnf)
    | (refine CallQ.of (c_works) ?_ ?_; (focus ((repeat' constructor); done)); conv => whnf)
    | (refine Fc.use (k) ?_ ?_; (focus ((repeat' constructor); done)); conv => whnf)
    | (refine CallQ.of (k) ?_ ?_; (focus ((repeat' constructor); done)); conv => whnf)
    | (refine Fc.use (k0) ?_ ?_; (focus ((repeat' constructor); done)); conv => whnf)
    | (refine CallQ.of (k0) ?_ ?_; (focus ((repeat' constructor); done)); conv => whnf)
    | (refine Fc.use (k1) ?_ ?_; (focus ((repeat' constructor); done)); conv => whnf)
    | (refine CallQ.of (k1) ?_ ?_; (focus ((repeat' constructor); done)); conv => whnf)
    | (refine Fc.use (k2) ?_ ?_; (focus ((repeat' constructor); done)); conv => whnf)
    | (refine CallQ.of (k2) ?_ ?_; (focus ((repeat' constructor); done)); conv => whnf)
    | (refine Fc.use (k3) ?_ ?_; (focus ((repeat' constructor); done)); conv => whnf)
    | (refine CallQ.of (k3) ?_ ?_; (focus ((repeat' constructor); done)); conv => whnf))
  all_goals first | rfl | omega | skip
  all_goals trace_state
theorem c_Edges4 (x : Cf) (w : Int) (hc : cok x) (hw : w.tmod 7 = 4) : Fc Try.prog n_ouroboroslaw11_ConfigEdges [x.sv, .v (.int .u8 w)] (sb true) := by
  have k := c_config_Check x
  rw [ck_y hc] at k
  have k0 := c_config_Check ⟨x.a, x.b, x.c, x.d, x.e, 1, x.g, x.h⟩
  rw [ck_y (by unfold cok at *; dsimp only at *; omega)] at k0
  have k1 := c_config_Check ⟨x.a, x.b, x.c, x.d, x.e, 8, x.g, x.h⟩
  rw [ck_y (by unfold cok at *; dsimp only at *; omega)] at k1
  have k2 := c_config_Check ⟨x.a, x.b, x.c, x.d, x.e, 0, x.g, x.h⟩
  rw [ck_n (by unfold cok at *; dsimp only at *; omega)] at k2
  have k3 := c_config_Check ⟨x.a, x.b, x.c, x.d, x.e, 9, x.g, x.h⟩
  rw [ck_n (by unfold cok at *; dsimp only at *; omega)] at k3
  obtain ⟨a, b, c, d, e, f, g, h⟩ := x
  dsimp only at *
  clear hc
  refine Fc.of_body tabOk q_ouroboroslaw11_ConfigEdges (by kernel_rfl) (rfl) (rfl) ?_
  conv => whnf
  repeat' (first
    | (refine bltG (by first | omega | (simp only [List.length_map] at *; omega)) ?_; conv => whnf)
    | (refine ndG (by assumption) ?_; conv => whnf)
    | (refine mulG ?_; conv => whnf)
    | (refine And.intro rfl ?_; conv => whnf)
    | (refine dsT (by assumption) ?_; conv => whnf)
    | (refine dsF (by assumption) ?_; conv => whnf)
    | (refine nsT (by assumption) ?_; conv => whnf)
    | (refine nsF (by assumption) ?_; conv => whnf)
    | (refine bsT (by assumption) ?_; conv => whnf)
    | (refine bsF (by assumption) ?_; conv => whnf)
    | (refine dsp ?_ ?_ <;> intro _ <;> conv => whnf)
    | (refine nsp ?_ ?_ <;> intro _ <;> conv => whnf)
    | (refine cnd_true (by assumption) ?_; conv => whnf)
    | (refine cnd_false (by assumption) ?_; conv => whnf)
    | (refine cnd_split ?_ ?_ <;> intro _ <;> conv => whnf)
    | (refine Cd.par tabOk (by kernel_rfl) (by kernel_rfl) ?_; conv => whnf)
    | (refine Fc.use (c_works) ?_ ?_; (focus ((repeat' constructor); done)); conv => whnf)
    | (refine CallQ.of (c_works) ?_ ?_; (focus ((repeat' constructor); done)); conv => whnf)
    | (refine Fc.use (k) ?_ ?_; (focus ((repeat' constructor); done)); conv => whnf)
    | (refine CallQ.of (k) ?_ ?_; (focus ((repeat' constructor); done)); conv => whnf)
    | (refine Fc.use (k0) ?_ ?_; (focus ((repeat' constructor); done)); conv => whnf)
    | (refine CallQ.of (k0) ?_ ?_; (focus ((repeat' constructor); done)); conv => whnf)
    | (refine Fc.use (k1) ?_ ?_; (focus ((repeat' constructor); done)); conv => whnf)
    | (refine CallQ.of (k1) ?_ ?_; (focus ((repeat' constructor); done)); conv => whnf)
    | (refine Fc.use (k2) ?_ ?_; (focus ((repeat' constructor); done)); conv => whnf)
    | (refine CallQ.of (k2) ?_ ?_; (focus ((repeat' constructor); done)); conv => whnf)
    | (refine Fc.use (k3) ?_ ?_; (focus ((repeat' constructor); done)); conv => whnf)
    | (refine CallQ.of (k3) ?_ ?_; (focus ((repeat' constructor); done)); conv => whnf))
  all_goals first | rfl | omega | skip
  all_goals trace_state
theorem c_Edges5 (x : Cf) (w : Int) (hc : cok x) (hw : w.tmod 7 = 5) : Fc Try.prog n_ouroboroslaw11_ConfigEdges [x.sv, .v (.int .u8 w)] (sb true) := by
  have k := c_config_Check x
  rw [ck_y hc] at k
  have k0 := c_config_Check ⟨x.a, x.b, x.c, x.d, x.e, x.f, 2, x.h⟩
  rw [ck_y (by unfold cok at *; dsimp only at *; omega)] at k0
  have k1 := c_config_Check ⟨x.a, x.b, x.c, x.d, x.e, x.f, 8, x.h⟩
  rw [ck_y (by unfold cok at *; dsimp only at *; omega)] at k1
  have k2 := c_config_Check ⟨x.a, x.b, x.c, x.d, x.e, x.f, 1, x.h⟩
  rw [ck_n (by unfold cok at *; dsimp only at *; omega)] at k2
  have k3 := c_config_Check ⟨x.a, x.b, x.c, x.d, x.e, x.f, 9, x.h⟩
  rw [ck_n (by unfold cok at *; dsimp only at *; omega)] at k3
  obtain ⟨a, b, c, d, e, f, g, h⟩ := x
  dsimp only at *
  clear hc
  refine Fc.of_body tabOk q_ouroboroslaw11_ConfigEdges (by kernel_rfl) (rfl) (rfl) ?_
  conv => whnf
  repeat' (first
    | (refine bltG (by first | omega | (simp only [List.length_map] at *; omega)) ?_; conv => whnf)
    | (refine ndG (by assumption) ?_; conv => whnf)
    | (refine mulG ?_; conv => whnf)
    | (refine And.intro rfl ?_; conv => whnf)
    | (refine dsT (by assumption) ?_; conv => whnf)
    | (refine dsF (by assumption) ?_; conv => whnf)
    | (refine nsT (by assumption) ?_; conv => whnf)
    | (refine nsF (by assumption) ?_; conv => whnf)
    | (refine bsT (by assumption) ?_; conv => whnf)
    | (refine bsF (by assumption) ?_; conv => whnf)
    | (refine dsp ?_ ?_ <;> intro _ <;> conv => whnf)
    | (refine nsp ?_ ?_ <;> intro _ <;> conv => whnf)
    | (refine cnd_true (by assumption) ?_; conv => whnf)
    | (refine cnd_false (by assumption) ?_; conv => whnf)
    | (refine cnd_split ?_ ?_ <;> intro _ <;> conv => whnf)
    | (refine Cd.par tabOk (by kernel_rfl) (by kernel_rfl) ?_; conv => whnf)
    | (refine Fc.use (c_works) ?_ ?_; (focus ((repeat' constructor); done)); conv => whnf)
    | (refine CallQ.of (c_works) ?_ ?_; (focus ((repeat' constructor); done)); conv => whnf)
    | (refine Fc.use (k) ?_ ?_; (focus ((repeat' constructor); done)); conv => whnf)
    | (refine CallQ.of (k) ?_ ?_; (focus ((repeat' constructor); done)); conv => whnf)
    | (refine Fc.use (k0) ?_ ?_; (focus ((repeat' constructor); done)); conv => whnf)
    | (refine CallQ.of (k0) ?_ ?_; (focus ((repeat' constructor); done)); conv => whnf)
    | (refine Fc.use (k1) ?_ ?_; (focus ((repeat' constructor); done)); conv => whnf)
    | (refine CallQ.of (k1) ?_ ?_; (focus ((repeat' constructor); done)); conv => whnf)
    | (refine Fc.use (k2) ?_ ?_; (focus ((repeat' constructor); done)); conv => whnf)
    | (refine CallQ.of (k2) ?_ ?_; (focus ((repeat' constructor); done)); conv => whnf)
    | (refine Fc.use (k3) ?_ ?_; (focus ((repeat' constructor); done)); conv => whnf)
    | (refine CallQ.of (k3) ?_ ?_; (focus ((repeat' constructor); done)); conv => whnf))
  all_goals first | rfl | omega | skip
  all_goals trace_state
theorem c_Edges6 (x : Cf) (w : Int) (hc : cok x) (h0 : w.tmod 7 ≠ 0) (h1 : w.tmod 7 ≠ 1) (h2 : w.tmod 7 ≠ 2) (h3 : w.tmod 7 ≠ 3) (h4 : w.tmod 7 ≠ 4) (h5 : w.tmod 7 ≠ 5) : Fc Try.prog n_ouroboroslaw11_ConfigEdges [x.sv, .v (.int .u8 w)] (sb true) := by
  have k := c_config_Check x
  rw [ck_y hc] at k
  have k0 := c_config_Check ⟨x.a, x.b, x.c, x.d, x.e, x.f, x.g, 1⟩
  rw [ck_y (by unfold cok at *; dsimp only at *; omega)] at k0
  have k1 := c_config_Check ⟨x.a, x.b, x.c, x.d, x.e, x.f, x.g, 2147483647⟩
  rw [ck_y (by unfold cok at *; dsimp only at *; omega)] at k1
  have k2 := c_config_Check ⟨x.a, x.b, x.c, x.d, x.e, x.f, x.g, 0⟩
  rw [ck_n (by unfold cok at *; dsimp only at *; omega)] at k2
  have k3 := c_config_Check ⟨x.a, x.b, x.c, x.d, x.e, x.f, x.g, 2147483648⟩
  rw [ck_n (by unfold cok at *; dsimp only at *; omega)] at k3
  obtain ⟨a, b, c, d, e, f, g, h⟩ := x
  dsimp only at *
  clear hc
  refine Fc.of_body tabOk q_ouroboroslaw11_ConfigEdges (by kernel_rfl) (rfl) (rfl) ?_
  conv => whnf
  repeat' (first
    | (refine bltG (by first | omega | (simp only [List.length_map] at *; omega)) ?_; conv => whnf)
    | (refine ndG (by assumption) ?_; conv => whnf)
    | (refine mulG ?_; conv => whnf)
    | (refine And.intro rfl ?_; conv => whnf)
    | (refine dsT (by assumption) ?_; conv => whnf)
    | (refine dsF (by assumption) ?_; conv => whnf)
    | (refine nsT (by assumption) ?_; conv => whnf)
    | (refine nsF (by assumption) ?_; conv => whnf)
    | (refine bsT (by assumption) ?_; conv => whnf)
    | (refine bsF (by assumption) ?_; conv => whnf)
    | (refine dsp ?_ ?_ <;> intro _ <;> conv => whnf)
    | (refine nsp ?_ ?_ <;> intro _ <;> conv => whnf)
    | (refine cnd_true (by assumption) ?_; conv => whnf)
    | (refine cnd_false (by assumption) ?_; conv => whnf)
    | (refine cnd_split ?_ ?_ <;> intro _ <;> conv => whnf)
    | (refine Cd.par tabOk (by kernel_rfl) (by kernel_rfl) ?_; conv => whnf)
    | (refine Fc.use (c_works) ?_ ?_; (focus ((repeat' constructor); done)); conv => whnf)
    | (refine CallQ.of (c_works) ?_ ?_; (focus ((repeat' constructor); done)); conv => whnf)
    | (refine Fc.use (k) ?_ ?_; (focus ((repeat' constructor); done)); conv => whnf)
    | (refine CallQ.of (k) ?_ ?_; (focus ((repeat' constructor); done)); conv => whnf)
    | (refine Fc.use (k0) ?_ ?_; (focus ((repeat' constructor); done)); conv => whnf)
    | (refine CallQ.of (k0) ?_ ?_; (focus ((repeat' constructor); done)); conv => whnf)
    | (refine Fc.use (k1) ?_ ?_; (focus ((repeat' constructor); done)); conv => whnf)
    | (refine CallQ.of (k1) ?_ ?_; (focus ((repeat' constructor); done)); conv => whnf)
    | (refine Fc.use (k2) ?_ ?_; (focus ((repeat' constructor); done)); conv => whnf)
    | (refine CallQ.of (k2) ?_ ?_; (focus ((repeat' constructor); done)); conv => whnf)
    | (refine Fc.use (k3) ?_ ?_; (focus ((repeat' constructor); done)); conv => whnf)
    | (refine CallQ.of (k3) ?_ ?_; (focus ((repeat' constructor); done)); conv => whnf))
  all_goals first | rfl | omega | skip
  all_goals trace_state
end Go.Proofs.Ythdkofhgdmgdcaa

