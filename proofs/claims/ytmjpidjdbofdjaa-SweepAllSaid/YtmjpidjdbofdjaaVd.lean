import Derived.Test.YtmjpidjdbofdjaaVc
/- Contracts: the lattices' tests. -/
set_option linter.unusedVariables false
set_option linter.unusedSimpArgs false
set_option maxRecDepth 100000
namespace Go.Proofs.Ytmjpidjdbofdjaa
open Go Go.Sy
def regV (v : Val) : Val := ⟨v.kind, v.time, v.node, v.dead, v.text, [], [], 0⟩
def regIs (v : Val) : Prop := v = regV v ∧ 0 ≤ v.time ∧ v.time ≤ 2147483647 ∧ 0 ≤ v.node ∧ v.node < 8 ∧ v.text.size ≤ 8 ∧ (v.dead = true → v.text = ⟨#[]⟩)
instance (v : Val) : Decidable (regIs v) := by unfold regIs; infer_instance
theorem c_register_is (v : Val) (hv : v.bd) : Fc Try.prog n_value_register_is [.agg [], v.sv] (sb (decide (regIs v))) := by
  refine Fc.of_body tabOk q_value_register_is (by kernel_rfl) ((blwL_cons rfl (blwL_one (blw_val 0 v)))) (rfl) ?_
  conv => whnf
  repeat' (first
    | (refine bltG (by first | omega | (simp only [List.length_map] at *; omega)) ?_; conv => whnf)
    | (refine ndG (by assumption) ?_; conv => whnf)
    | (refine mulG ?_; conv => whnf)
    | (refine And.intro rfl ?_; conv => whnf)
    | (refine dsT (by assumption) ?_; conv => whnf)
    | (refine dsF (by assumption) ?_; conv => whnf)
    | (refine nsT (by assumption) ?_; conv => whnf)
    | (refine nsF (by assumption) ?_; conv => whnf)
    | (refine bsT (by assumption) ?_; conv => whnf)
    | (refine bsF (by assumption) ?_; conv => whnf)
    | (refine dsp ?_ ?_ <;> intro _ <;> conv => whnf)
    | (refine nsp ?_ ?_ <;> intro _ <;> conv => whnf)
    | (refine cnd_true (by assumption) ?_; conv => whnf)
    | (refine cnd_false (by assumption) ?_; conv => whnf)
    | (refine cnd_split ?_ ?_ <;> intro _ <;> conv => whnf)
    | (refine Cd.par tabOk (by kernel_rfl) (by kernel_rfl) ?_; conv => whnf)
    | (refine Tr.of_body tabOk q_value_only (by kernel_rfl) ?_; conv => whnf)
    | (refine Tr.of_body tabOk q_value_register_is_1 (by kernel_rfl) ?_; conv => whnf)
    | (refine Fc.use (c_value_Same v (regV v) hv) ?_ ?_; (focus ((repeat' constructor); done)); conv => whnf)
    | (refine CallQ.of (c_value_Same v (regV v) hv) ?_ ?_; (focus ((repeat' constructor); done)); conv => whnf))
  all_goals first
    | rfl
    | (refine sbT ?_; ((try simp only [List.length_map, regIs] at *); first | omega | grind))
    | (refine sbF ?_; ((try simp only [List.length_map, regIs] at *); first | omega | grind))
    | (refine sbD ?_; ((try simp only [List.length_map, regIs] at *); first | omega | grind))
    | (refine sbB ?_; ((try simp only [List.length_map, regIs] at *); first | omega | grind))
    | (refine ivT ?_; ((try simp only [List.length_map, regIs] at *); first | omega | grind))
    | (refine ivF ?_; ((try simp only [List.length_map, regIs] at *); first | omega | grind))
    | (refine ivD ?_; ((try simp only [List.length_map, regIs] at *); first | omega | grind))
theorem findIdx_at {α : Type} {p : α → Bool} : ∀ {l : List α} {i : Nat} {x : α}, l[i]? = some x → p x = true → (∀ x ∈ l.take i, p x = false) → l.findIdx? p = some i
  | [], i, x, h, _, _ => by simp at h
  | a :: r, 0, x, h, hx, _ => by simp at h; subst h; simp [List.findIdx?_cons, hx]
  | a :: r, i + 1, x, h, hx, hp => by
    have ha : p a = false := hp a (by simp)
    have := findIdx_at (l := r) (i := i) (x := x) (by simpa using h) hx (fun y hy => hp y (by simp [hy]))
    simp [List.findIdx?_cons, ha, this]
theorem findIdx_no {α : Type} {p : α → Bool} {l : List α} (h : ∀ x ∈ l, p x = false) : l.findIdx? p = none := by
  rw [List.findIdx?_eq_none_iff]; exact h
theorem c_slices_IndexFunc_int (p : Int → Bool) (g : Nat) (hg : ∀ n, Fc Try.prog g [iv n] (sb (p n))) (l : List Int) (hl : l.length < 2 ^ 62) :
    Fc Try.prog n_slices_IndexFunc_Lint_int [ints l, .clo (.func g) [] []] (iv (match l.findIdx? p with | some i => i | none => -1)) := by
  refine Fc.of_body tabOk q_slices_IndexFunc_Lint_int (by kernel_rfl) ((blwL_cons (blw_ints 0 l) (blwL_one rfl))) (by split <;> rfl) ?_
  conv => whnf
  refine loopP tabOk (fun i : Nat => i ≤ l.length ∧ ∀ x ∈ l.take i, p x = false) (fun i => ⟨[(8, iv i), (7, iv (l.map iv).length), (0, ints l), (1, .clo (.func g) [] [])], []⟩) (fun _ => ⟨0, [], []⟩) (fun i => l.length - i) 0 (by simp) (by repeat' constructor) (fun _ => rfl) ?_
  rintro i ⟨hi, hp⟩
  conv => whnf
  refine dsp ?_ ?_ <;> intro hlt <;> conv => whnf
  · simp only [List.length_map] at hlt
    obtain ⟨x, hx⟩ : ∃ x, l[i]? = some x := ⟨_, List.getElem?_eq_getElem (by omega)⟩
    repeat' (first
      | (refine bltG (by first | omega | (simp only [List.length_map] at *; omega)) ?_; conv => whnf)
      | (refine ndG (by assumption) ?_; conv => whnf)
      | (refine mulG ?_; conv => whnf)
      | (refine And.intro rfl ?_; conv => whnf)
      | (refine dsT (by assumption) ?_; conv => whnf)
      | (refine dsF (by assumption) ?_; conv => whnf)
      | (refine nsT (by assumption) ?_; conv => whnf)
      | (refine nsF (by assumption) ?_; conv => whnf)
      | (refine bsT (by assumption) ?_; conv => whnf)
      | (refine bsF (by assumption) ?_; conv => whnf)
      | (refine dsp ?_ ?_ <;> intro _ <;> conv => whnf)
      | (refine nsp ?_ ?_ <;> intro _ <;> conv => whnf)
      | (refine cnd_true (by assumption) ?_; conv => whnf)
      | (refine cnd_false (by assumption) ?_; conv => whnf)
      | (refine cnd_split ?_ ?_ <;> intro _ <;> conv => whnf)
      | (refine Cd.par tabOk (by kernel_rfl) (by kernel_rfl) ?_; conv => whnf)
      | (refine Fc.use (hg x) ?_ ?_; (focus ((repeat' constructor); done)); conv => whnf)
      | (refine CallQ.of (hg x) ?_ ?_; (focus ((repeat' constructor); done)); conv => whnf))
    · rw [show l.findIdx? p = some i from findIdx_at hx ‹_› hp]; rfl
    · refine ⟨i + 1, ⟨by omega, by rw [List.take_add_one, hx]; grind⟩, ?_, ?_⟩
      · first | omega | (simp only [List.length_map] at *; omega)
      · (repeat' constructor) <;> first | (refine ivW ?_ ?_ ?_ <;> omega)
  · rw [show l.findIdx? p = none from findIdx_no (by grind)]; rfl
end Go.Proofs.Ytmjpidjdbofdjaa

