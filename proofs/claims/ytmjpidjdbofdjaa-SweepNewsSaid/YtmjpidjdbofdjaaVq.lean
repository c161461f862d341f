import Derived.Test.YtmjpidjdbofdjaaVp
import Derived.Test.YtmjpidjdbofdjaaVnS
/- Contracts: sweep.Send, sweep.Heard. -/
set_option linter.unusedVariables false
set_option linter.unusedSimpArgs false
set_option maxRecDepth 100000
set_option maxHeartbeats 1600000
namespace Go.Proofs.Ytmjpidjdbofdjaa
open Go Go.Sy
def bare (typ a : Int) : Fra := ⟨typ, a, 0, 0, 0, 0, 0, []⟩
def sent (a : Ar) (m n : Nat) : Fra := ⟨6, m, 0, 0, 0, 0, 0, sel a.slots m n a.slots.length⟩
theorem c_Send1 (a : Ar) (ha : a.bd) (hk : arOk a) (h0 : 0 < a.slots.length) (c : Int) (m n : Nat) (hm : mend c a = m) (hn : 1 ≤ n ∧ n ≤ 8) : Fc Try.prog n_sweep_Send [a.sv, iv c, iv n] (.tup [(sent a m n).sv, sb true]) := by
  have hlen : a.slots.length ≤ 8 := by have h1 := hk.2.1; have h2 := hk.2.2.1; omega
  have hm8 : m ≤ 8 := by
    have : mend c a ≤ 8 := by unfold mend; split <;> omega
    omega
  have hck := c_arena_Check a ha
  have hme := c_sweep_Mend c a ha
  rw [hm] at hme
  have hmay := c_sweep_may n
  have hch := c_arena_Chunk a ha hk m n hm8 (by omega)
  have e0 : (if arOk a then (0 : Int) else 2) = 0 := if_pos hk
  have e1 : ¬ ((a.slots.map Ent.sv).length : Int) = 0 := by simp only [List.length_map]; omega
  have e2 : 1 ≤ (n : Int) ∧ (n : Int) ≤ 8 := by omega
  refine Fc.of_body tabOk q_sweep_Send (by kernel_rfl) ((blwL_cons (blw_ar 0 a) (blwL_cons rfl (blwL_one rfl)))) ((by simp [blw, blwL, blw_fra, sb])) ?_
  conv => whnf
  repeat' (first
    | (refine bltG (by first | omega | (simp only [List.length_map] at *; omega)) ?_; conv => whnf)
    | (refine ndG (by assumption) ?_; conv => whnf)
    | (refine mulG ?_; conv => whnf)
    | (refine And.intro rfl ?_; conv => whnf)
    | (refine dsT (by assumption) ?_; conv => whnf)
    | (refine dsF (by assumption) ?_; conv => whnf)
    | (refine nsT (by assumption) ?_; conv => whnf)
    | (refine nsF (by assumption) ?_; conv => whnf)
    | (refine bsT (by assumption) ?_; conv => whnf)
    | (refine bsF (by assumption) ?_; conv => whnf)
    | (refine dsp ?_ ?_ <;> intro _ <;> conv => whnf)
    | (refine nsp ?_ ?_ <;> intro _ <;> conv => whnf)
    | (refine cnd_true (by assumption) ?_; conv => whnf)
    | (refine cnd_false (by assumption) ?_; conv => whnf)
    | (refine cnd_split ?_ ?_ <;> intro _ <;> conv => whnf)
    | (refine Cd.par tabOk (by kernel_rfl) (by kernel_rfl) ?_; conv => whnf)
    | (refine Fc.use (hck) ?_ ?_; (focus ((repeat' constructor); done)); conv => whnf)
    | (refine CallQ.of (hck) ?_ ?_; (focus ((repeat' constructor); done)); conv => whnf)
    | (refine Fc.use (hme) ?_ ?_; (focus ((repeat' constructor); done)); conv => whnf)
    | (refine CallQ.of (hme) ?_ ?_; (focus ((repeat' constructor); done)); conv => whnf)
    | (refine Fc.use (hmay) ?_ ?_; (focus ((repeat' constructor); done)); conv => whnf)
    | (refine CallQ.of (hmay) ?_ ?_; (focus ((repeat' constructor); done)); conv => whnf)
    | (refine Fc.use (hch) ?_ ?_; (focus ((repeat' constructor); done)); conv => whnf)
    | (refine CallQ.of (hch) ?_ ?_; (focus ((repeat' constructor); done)); conv => whnf))
  repeat' constructor
theorem c_Send0 (a : Ar) (ha : a.bd) (c n : Int) (h : ¬ (arOk a ∧ 0 < a.slots.length ∧ 1 ≤ n ∧ n ≤ 8)) : Fc Try.prog n_sweep_Send [a.sv, iv c, iv n] (.tup [(bare 0 0).sv, sb false]) := by
  have hck := c_arena_Check a ha
  have hmay := c_sweep_may n
  refine Fc.of_body tabOk q_sweep_Send (by kernel_rfl) ((blwL_cons (blw_ar 0 a) (blwL_cons rfl (blwL_one rfl)))) (rfl) ?_
  conv => whnf
  repeat' (first
    | (refine bltG (by first | omega | (simp only [List.length_map] at *; omega)) ?_; conv => whnf)
    | (refine ndG (by assumption) ?_; conv => whnf)
    | (refine mulG ?_; conv => whnf)
    | (refine And.intro rfl ?_; conv => whnf)
    | (refine dsT (by assumption) ?_; conv => whnf)
    | (refine dsF (by assumption) ?_; conv => whnf)
    | (refine nsT (by assumption) ?_; conv => whnf)
    | (refine nsF (by assumption) ?_; conv => whnf)
    | (refine bsT (by assumption) ?_; conv => whnf)
    | (refine bsF (by assumption) ?_; conv => whnf)
    | (refine dsp ?_ ?_ <;> intro _ <;> conv => whnf)
    | (refine nsp ?_ ?_ <;> intro _ <;> conv => whnf)
    | (refine cnd_true (by assumption) ?_; conv => whnf)
    | (refine cnd_false (by assumption) ?_; conv => whnf)
    | (refine cnd_split ?_ ?_ <;> intro _ <;> conv => whnf)
    | (refine Cd.par tabOk (by kernel_rfl) (by kernel_rfl) ?_; conv => whnf)
    | (refine Fc.use (hck) ?_ ?_; (focus ((repeat' constructor); done)); conv => whnf)
    | (refine CallQ.of (hck) ?_ ?_; (focus ((repeat' constructor); done)); conv => whnf)
    | (refine Fc.use (hmay) ?_ ?_; (focus ((repeat' constructor); done)); conv => whnf)
    | (refine CallQ.of (hmay) ?_ ?_; (focus ((repeat' constructor); done)); conv => whnf))
  all_goals try simp only [List.length_map] at *
  all_goals first
    | (exfalso; grind)
    | (repeat' constructor)
theorem c_Heard1 (f : Fra) (hf : f.bd) (h : frOk f ∧ f.typ = 6) : Fc Try.prog n_sweep_Heard [f.sv] (.tup [(bare 7 f.a).sv, sb true]) := by
  have ht := c_tells f hf 6
  refine Fc.of_body tabOk q_sweep_Heard (by kernel_rfl) ((blwL_one (blw_fra 0 f))) (rfl) ?_
  conv => whnf
  repeat' (first
    | (refine bltG (by first | omega | (simp only [List.length_map] at *; omega)) ?_; conv => whnf)
    | (refine ndG (by assumption) ?_; conv => whnf)
    | (refine mulG ?_; conv => whnf)
    | (refine And.intro rfl ?_; conv => whnf)
    | (refine dsT (by assumption) ?_; conv => whnf)
    | (refine dsF (by assumption) ?_; conv => whnf)
    | (refine nsT (by assumption) ?_; conv => whnf)
    | (refine nsF (by assumption) ?_; conv => whnf)
    | (refine bsT (by assumption) ?_; conv => whnf)
    | (refine bsF (by assumption) ?_; conv => whnf)
    | (refine dsp ?_ ?_ <;> intro _ <;> conv => whnf)
    | (refine nsp ?_ ?_ <;> intro _ <;> conv => whnf)
    | (refine cnd_true (by assumption) ?_; conv => whnf)
    | (refine cnd_false (by assumption) ?_; conv => whnf)
    | (refine cnd_split ?_ ?_ <;> intro _ <;> conv => whnf)
    | (refine Cd.par tabOk (by kernel_rfl) (by kernel_rfl) ?_; conv => whnf)
    | (refine Exists.intro n_sweep_letter_tells (And.intro ?_ ?_); (focus kernel_rfl); conv => whnf)
    | (refine Fc.use (ht) ?_ ?_; (focus ((repeat' constructor); done)); conv => whnf)
    | (refine CallQ.of (ht) ?_ ?_; (focus ((repeat' constructor); done)); conv => whnf))
  repeat' constructor
theorem c_Heard0 (f : Fra) (hf : f.bd) (h : ¬ (frOk f ∧ f.typ = 6)) : Fc Try.prog n_sweep_Heard [f.sv] (.tup [(bare 0 0).sv, sb false]) := by
  have ht := c_tells f hf 6
  refine Fc.of_body tabOk q_sweep_Heard (by kernel_rfl) ((blwL_one (blw_fra 0 f))) (rfl) ?_
  conv => whnf
  repeat' (first
    | (refine bltG (by first | omega | (simp only [List.length_map] at *; omega)) ?_; conv => whnf)
    | (refine ndG (by assumption) ?_; conv => whnf)
    | (refine mulG ?_; conv => whnf)
    | (refine And.intro rfl ?_; conv => whnf)
    | (refine dsT (by assumption) ?_; conv => whnf)
    | (refine dsF (by assumption) ?_; conv => whnf)
    | (refine nsT (by assumption) ?_; conv => whnf)
    | (refine nsF (by assumption) ?_; conv => whnf)
    | (refine bsT (by assumption) ?_; conv => whnf)
    | (refine bsF (by assumption) ?_; conv => whnf)
    | (refine dsp ?_ ?_ <;> intro _ <;> conv => whnf)
    | (refine nsp ?_ ?_ <;> intro _ <;> conv => whnf)
    | (refine cnd_true (by assumption) ?_; conv => whnf)
    | (refine cnd_false (by assumption) ?_; conv => whnf)
    | (refine cnd_split ?_ ?_ <;> intro _ <;> conv => whnf)
    | (refine Cd.par tabOk (by kernel_rfl) (by kernel_rfl) ?_; conv => whnf)
    | (refine Exists.intro n_sweep_letter_tells (And.intro ?_ ?_); (focus kernel_rfl); conv => whnf)
    | (refine Fc.use (ht) ?_ ?_; (focus ((repeat' constructor); done)); conv => whnf)
    | (refine CallQ.of (ht) ?_ ?_; (focus ((repeat' constructor); done)); conv => whnf))
  repeat' constructor
end Go.Proofs.Ytmjpidjdbofdjaa

