import Derived.Test.YtmjpidjdbofdjaaVq
/- The law's own example: works. -/
set_option linter.unusedVariables false
set_option linter.unusedSimpArgs false
set_option maxRecDepth 100000
set_option maxHeartbeats 1600000
namespace Go.Proofs.Ytmjpidjdbofdjaa
open Go Go.Sy
def v0 : Val := ⟨3, 0, 0, false, ⟨#[]⟩, [], [], 5⟩
def A0 : Ar := ⟨3, [⟨⟨#[97]⟩, v0⟩, ⟨⟨#[98]⟩, v0⟩, ⟨⟨#[99]⟩, v0⟩], [0, 1, 2]⟩
def AE : Ar := ⟨3, [], []⟩
def rawE (k : UInt8) : SV := .agg [ss ⟨#[k]⟩, iv 3, iv 0, iv 0, sb false, ss ⟨#[]⟩, .v (.slice none 0 0), .v (.slice none 0 0), .v (.int .u64 5)]
def rawA : SV := .agg [iv 3, .lst true 9 [rawE 97, rawE 98, rawE 99], .lst true 1 [iv 0, iv 1, iv 2]]
theorem raw_den {β : Gh} {y : Value} (h : Den β rawA y) : Den β A0.sv y := by
  obtain ⟨xs, ⟨y0, z0, d0, ⟨y1, z1, d1, ⟨y2, z2, d2, d3, rfl⟩, rfl⟩, rfl⟩, rfl⟩ := h
  exact ⟨_, ⟨y0, _, d0, ⟨y1, _, lst_den (by repeat' constructor) d1, ⟨y2, _, lst_den (by repeat' constructor) d2, d3, rfl⟩, rfl⟩, rfl⟩, rfl⟩
theorem wA {r r' : List SV} (h : lePL r r') : ∀ β ys, DenL β (rawA :: r) ys → DenL β (A0.sv :: r') ys := fun β ys ⟨y, zs, h1, h2, h3⟩ => ⟨y, zs, raw_den h1, lePL_den _ _ _ h h2, h3⟩
theorem wB {x x' : SV} (h : leP x x') : ∀ β ys, DenL β [x, rawA] ys → DenL β [x', A0.sv] ys := fun β ys ⟨y, zs, h1, ⟨y', zs', h4, h5, h6⟩, h3⟩ => ⟨y, zs, leP_den _ _ _ h h1, ⟨y', zs', raw_den h4, h5, h6⟩, h3⟩
theorem bd_v0 : v0.bd := by constructor <;> decide
theorem bd_A0 : A0.bd := by
  refine ⟨fun e he => ?_, by decide, by decide⟩
  simp only [A0, List.mem_cons, List.not_mem_nil, or_false] at he
  rcases he with rfl | rfl | rfl <;> exact bd_v0
theorem bd_AE : AE.bd := ⟨fun e he => by simp [AE] at he, by decide, by decide⟩
theorem ok_A0 : arOk A0 := by decide +kernel
theorem m_0 : mend 0 A0 = ((0 : Nat) : Int) := by decide +kernel
theorem m_2 : mend 2 A0 = ((2 : Nat) : Int) := by decide +kernel
theorem m_4 : mend (-4) A0 = 0 := by decide +kernel
theorem bd_sub {l : List Ent} {t n i : Nat} (h : ∀ e ∈ l, e.bd) : ∀ e ∈ sel l t n i, e.bd := fun e he => h e (List.mem_of_mem_take (List.mem_of_mem_drop (List.mem_of_mem_take he)))
theorem bd_s (m n : Nat) : (sent A0 m n).bd := ⟨bd_sub bd_A0.1, by simp only [sent, sel, List.length_take, List.length_drop]; have := bd_A0.2.1; omega⟩
theorem bd_b (t a : Int) : (bare t a).bd := ⟨fun e he => by simp [bare] at he, by simp [bare]⟩
theorem ok_s0 : frOk (sent A0 0 2) ∧ (sent A0 0 2).typ = 6 := by decide +kernel
theorem ok_s2 : frOk (sent A0 2 2) ∧ (sent A0 2 2).typ = 6 := by decide +kernel
theorem d_1 : doneTo A0 0 2 (bare 7 0) = 2 := by decide +kernel
theorem d_2 : doneTo A0 2 2 (bare 7 2) = 0 := by decide +kernel
theorem d_3 : doneTo A0 2 2 (bare 7 0) = 2 := by decide +kernel
theorem c_works : Fc Try.prog n_ouroboroslaw19_works [] (sb true) := by
  have h1 := c_Send1 A0 bd_A0 ok_A0 (by decide) 0 0 2 m_0 (by omega)
  have h2 := c_Heard1 (sent A0 0 2) (bd_s 0 2) ok_s0
  have h3 := c_sweep_Done A0 0 2 (bare 7 0) bd_A0 (bd_b 7 0)
  rw [d_1] at h3
  have h4 := c_Send1 A0 bd_A0 ok_A0 (by decide) 2 2 2 m_2 (by omega)
  have h5 := c_Heard1 (sent A0 2 2) (bd_s 2 2) ok_s2
  have h6 := c_Send0 AE bd_AE 0 2 (by decide +kernel)
  have h7 := c_sweep_Done A0 2 2 (bare 7 2) bd_A0 (bd_b 7 2)
  rw [d_2] at h7
  have h8 := c_sweep_Done A0 2 2 (bare 7 0) bd_A0 (bd_b 7 0)
  rw [d_3] at h8
  have h9 := c_sweep_Mend (-4) A0 bd_A0
  rw [m_4] at h9
  have h10 := c_sweep_Mend 2 A0 bd_A0
  rw [m_2] at h10
  refine Fc.of_body tabOk q_ouroboroslaw19_works (by kernel_rfl) (rfl) (rfl) ?_
  conv => whnf
  repeat' (first
    | (refine bltG (by first | omega | (simp only [List.length_map] at *; omega)) ?_; conv => whnf)
    | (refine ndG (by assumption) ?_; conv => whnf)
    | (refine mulG ?_; conv => whnf)
    | (refine And.intro rfl ?_; conv => whnf)
    | (refine dsT (by assumption) ?_; conv => whnf)
    | (refine dsF (by assumption) ?_; conv => whnf)
    | (refine nsT (by assumption) ?_; conv => whnf)
    | (refine nsF (by assumption) ?_; conv => whnf)
    | (refine bsT (by assumption) ?_; conv => whnf)
    | (refine bsF (by assumption) ?_; conv => whnf)
    | (refine dsp ?_ ?_ <;> intro _ <;> conv => whnf)
    | (refine nsp ?_ ?_ <;> intro _ <;> conv => whnf)
    | (refine cnd_true (by assumption) ?_; conv => whnf)
    | (refine cnd_false (by assumption) ?_; conv => whnf)
    | (refine cnd_split ?_ ?_ <;> intro _ <;> conv => whnf)
    | (refine Cd.par tabOk (by kernel_rfl) (by kernel_rfl) ?_; conv => whnf)
    | (refine Fc.use (h2) ?_ ?_; (focus ((repeat' constructor); done)); conv => whnf)
    | (refine CallQ.of (h2) ?_ ?_; (focus ((repeat' constructor); done)); conv => whnf)
    | (refine Fc.use (h5) ?_ ?_; (focus ((repeat' constructor); done)); conv => whnf)
    | (refine CallQ.of (h5) ?_ ?_; (focus ((repeat' constructor); done)); conv => whnf)
    | (refine useD (h1) (wA ?_) ?_; (focus ((repeat' constructor); done)); conv => whnf)
    | (refine useD (h4) (wA ?_) ?_; (focus ((repeat' constructor); done)); conv => whnf)
    | (refine useD (h3) (wA ?_) ?_; (focus ((repeat' constructor); done)); conv => whnf)
    | (refine useD (h7) (wA ?_) ?_; (focus ((repeat' constructor); done)); conv => whnf)
    | (refine useD (h8) (wA ?_) ?_; (focus ((repeat' constructor); done)); conv => whnf)
    | (refine useD (h9) (wB ?_) ?_; (focus ((repeat' constructor); done)); conv => whnf)
    | (refine useD (h10) (wB ?_) ?_; (focus ((repeat' constructor); done)); conv => whnf)
    | (refine Fc.use (h6) ?_ ?_; (focus ((repeat' constructor); done)); conv => whnf)
    | (refine CallQ.of (h6) ?_ ?_; (focus ((repeat' constructor); done)); conv => whnf))
  all_goals rfl
end Go.Proofs.Ytmjpidjdbofdjaa

