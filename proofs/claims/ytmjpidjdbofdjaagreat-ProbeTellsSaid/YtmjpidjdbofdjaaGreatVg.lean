import Derived.Test.YtmjpidjdbofdjaaGreatDt
/- Contracts: small functions; lists of numbers; values; entries; lists of entries. -/
set_option linter.unusedVariables false
set_option linter.unusedSimpArgs false
/- Contracts of small functions. -/
namespace Go.Proofs.YtmjpidjdbofdjaaGreat
open Go Go.Sy
def valFew (v : Val) : Prop := v.text.size ≤ 100 ∧ v.plus.length ≤ 40 ∧ v.minus.length ≤ 40
instance (v : Val) : Decidable (valFew v) := by unfold valFew; infer_instance
set_option maxRecDepth 100000
theorem c_law06_Few (v : Val) : Fc Tryz.prog n_ouroboroslaw06_Few [v.sv] (sb (decide (valFew v))) := by
  refine Fc.of_body tabOk q_ouroboroslaw06_Few (by kernel_rfl) (blwL_one (blw_val 0 v)) (rfl) ?_
  conv => whnf
  repeat' (first
    | (refine bltG (by first | omega | (simp only [List.length_map] at *; omega)) ?_; conv => whnf)
    | (refine ndG (by assumption) ?_; conv => whnf)
    | (refine mulG ?_; conv => whnf)
    | (refine And.intro rfl ?_; conv => whnf)
    | (refine dsT (by assumption) ?_; conv => whnf)
    | (refine dsF (by assumption) ?_; conv => whnf)
    | (refine nsT (by assumption) ?_; conv => whnf)
    | (refine nsF (by assumption) ?_; conv => whnf)
    | (refine bsT (by assumption) ?_; conv => whnf)
    | (refine bsF (by assumption) ?_; conv => whnf)
    | (refine dsp ?_ ?_ <;> intro _ <;> conv => whnf)
    | (refine nsp ?_ ?_ <;> intro _ <;> conv => whnf)
    | (refine cnd_true (by assumption) ?_; conv => whnf)
    | (refine cnd_false (by assumption) ?_; conv => whnf)
    | (refine cnd_split ?_ ?_ <;> intro _ <;> conv => whnf)
    | (refine Cd.par tabOk (by kernel_rfl) (by kernel_rfl) ?_; conv => whnf))
  all_goals first
    | rfl
    | (refine sbT ?_; ((try simp only [List.length_map, valFew] at *); first | omega | grind))
    | (refine sbF ?_; ((try simp only [List.length_map, valFew] at *); first | omega | grind))
    | (refine sbD ?_; ((try simp only [List.length_map, valFew] at *); first | omega | grind))
    | (refine sbB ?_; ((try simp only [List.length_map, valFew] at *); first | omega | grind))
    | (refine ivT ?_; ((try simp only [List.length_map, valFew] at *); first | omega | grind))
    | (refine ivF ?_; ((try simp only [List.length_map, valFew] at *); first | omega | grind))
    | (refine ivD ?_; ((try simp only [List.length_map, valFew] at *); first | omega | grind))
def entFew (e : Ent) : Prop := valFew e.val ∧ e.key.size ≤ 100
instance (e : Ent) : Decidable (entFew e) := by unfold entFew; infer_instance
theorem c_law07_Few (e : Ent) : Fc Tryz.prog n_ouroboroslaw07_Few [e.sv] (sb (decide (entFew e))) := by
  refine Fc.of_body tabOk q_ouroboroslaw07_Few (by kernel_rfl) (blwL_one (blw_ent 0 e)) (rfl) ?_
  conv => whnf
  repeat' (first
    | (refine bltG (by first | omega | (simp only [List.length_map] at *; omega)) ?_; conv => whnf)
    | (refine ndG (by assumption) ?_; conv => whnf)
    | (refine mulG ?_; conv => whnf)
    | (refine And.intro rfl ?_; conv => whnf)
    | (refine dsT (by assumption) ?_; conv => whnf)
    | (refine dsF (by assumption) ?_; conv => whnf)
    | (refine nsT (by assumption) ?_; conv => whnf)
    | (refine nsF (by assumption) ?_; conv => whnf)
    | (refine bsT (by assumption) ?_; conv => whnf)
    | (refine bsF (by assumption) ?_; conv => whnf)
    | (refine dsp ?_ ?_ <;> intro _ <;> conv => whnf)
    | (refine nsp ?_ ?_ <;> intro _ <;> conv => whnf)
    | (refine cnd_true (by assumption) ?_; conv => whnf)
    | (refine cnd_false (by assumption) ?_; conv => whnf)
    | (refine cnd_split ?_ ?_ <;> intro _ <;> conv => whnf)
    | (refine Cd.par tabOk (by kernel_rfl) (by kernel_rfl) ?_; conv => whnf)
    | (refine Fc.use (c_law06_Few e.val) ?_ ?_; (focus ((repeat' constructor); done)); conv => whnf)
    | (refine CallQ.of (c_law06_Few e.val) ?_ ?_; (focus ((repeat' constructor); done)); conv => whnf))
  all_goals first
    | rfl
    | (refine sbT ?_; ((try simp only [List.length_map, entFew] at *); first | omega | grind))
    | (refine sbF ?_; ((try simp only [List.length_map, entFew] at *); first | omega | grind))
    | (refine sbD ?_; ((try simp only [List.length_map, entFew] at *); first | omega | grind))
    | (refine sbB ?_; ((try simp only [List.length_map, entFew] at *); first | omega | grind))
    | (refine ivT ?_; ((try simp only [List.length_map, entFew] at *); first | omega | grind))
    | (refine ivF ?_; ((try simp only [List.length_map, entFew] at *); first | omega | grind))
    | (refine ivD ?_; ((try simp only [List.length_map, entFew] at *); first | omega | grind))
end Go.Proofs.YtmjpidjdbofdjaaGreat

/- Contracts: lists. -/
set_option maxRecDepth 100000
namespace Go.Proofs.YtmjpidjdbofdjaaGreat
open Go Go.Sy
theorem c_slices_Equal_int (a b : List Int) (ha : a.length < 2 ^ 62) : Fc Tryz.prog n_slices_Equal_Lint_int [ints a, ints b] (sb (decide (a = b))) := by
  refine Fc.of_body tabOk q_slices_Equal_Lint_int (by kernel_rfl) ((blwL_cons (blw_ints 0 a) (blwL_one (blw_ints 0 b)))) (rfl) ?_
  conv => whnf
  refine nsp ?_ ?_ <;> intro h <;> conv => whnf
  · exact sbF (by grind)
  · have hl : a.length = b.length := by simp only [List.length_map] at h; omega
    refine loopP tabOk (fun i : Nat => i ≤ a.length ∧ a.take i = b.take i) (fun i => ⟨[(13, iv i), (12, iv (a.map iv).length), (0, ints a), (1, ints b)], []⟩) (fun _ => ⟨0, [], []⟩) (fun i => a.length - i) 0 (by simp) (by repeat' constructor) (fun _ => rfl) ?_
    rintro i ⟨hi, hp⟩
    conv => whnf
    refine dsp ?_ ?_ <;> intro hlt <;> conv => whnf
    · simp only [List.length_map] at hlt
      obtain ⟨x, hx⟩ : ∃ x, a[i]? = some x := ⟨_, List.getElem?_eq_getElem (by omega)⟩
      obtain ⟨y, hy⟩ : ∃ x, b[i]? = some x := ⟨_, List.getElem?_eq_getElem (by omega)⟩
      repeat' (first
        | (refine bltG (by first | omega | (simp only [List.length_map] at *; omega)) ?_; conv => whnf)
        | (refine ndG (by assumption) ?_; conv => whnf)
        | (refine mulG ?_; conv => whnf)
        | (refine And.intro rfl ?_; conv => whnf)
        | (refine dsT (by assumption) ?_; conv => whnf)
        | (refine dsF (by assumption) ?_; conv => whnf)
        | (refine nsT (by assumption) ?_; conv => whnf)
        | (refine nsF (by assumption) ?_; conv => whnf)
        | (refine bsT (by assumption) ?_; conv => whnf)
        | (refine bsF (by assumption) ?_; conv => whnf)
        | (refine dsp ?_ ?_ <;> intro _ <;> conv => whnf)
        | (refine nsp ?_ ?_ <;> intro _ <;> conv => whnf)
        | (refine cnd_true (by assumption) ?_; conv => whnf)
        | (refine cnd_false (by assumption) ?_; conv => whnf)
        | (refine cnd_split ?_ ?_ <;> intro _ <;> conv => whnf)
        | (refine Cd.par tabOk (by kernel_rfl) (by kernel_rfl) ?_; conv => whnf))
      · exact sbF (by grind)
      · refine ⟨i + 1, ⟨by omega, by rw [List.take_add_one, List.take_add_one, hx, hy, hp]; grind⟩, ?_, ?_⟩
        · first | omega | (simp only [List.length_map] at *; omega)
        · (repeat' constructor) <;> first | (refine ivW ?_ ?_ ?_ <;> first | omega | (dsimp only; omega))
    · repeat' (first
        | (refine bltG (by first | omega | (simp only [List.length_map] at *; omega)) ?_; conv => whnf)
        | (refine ndG (by assumption) ?_; conv => whnf)
        | (refine mulG ?_; conv => whnf)
        | (refine And.intro rfl ?_; conv => whnf)
        | (refine dsT (by assumption) ?_; conv => whnf)
        | (refine dsF (by assumption) ?_; conv => whnf)
        | (refine nsT (by assumption) ?_; conv => whnf)
        | (refine nsF (by assumption) ?_; conv => whnf)
        | (refine bsT (by assumption) ?_; conv => whnf)
        | (refine bsF (by assumption) ?_; conv => whnf)
        | (refine dsp ?_ ?_ <;> intro _ <;> conv => whnf)
        | (refine nsp ?_ ?_ <;> intro _ <;> conv => whnf)
        | (refine cnd_true (by assumption) ?_; conv => whnf)
        | (refine cnd_false (by assumption) ?_; conv => whnf)
        | (refine cnd_split ?_ ?_ <;> intro _ <;> conv => whnf)
        | (refine Cd.par tabOk (by kernel_rfl) (by kernel_rfl) ?_; conv => whnf))
      exact sbT (by grind)
end Go.Proofs.YtmjpidjdbofdjaaGreat

/- Contracts: values. -/
set_option maxRecDepth 100000
namespace Go.Proofs.YtmjpidjdbofdjaaGreat
open Go Go.Sy
/-- Bounds that every value of the laws has. -/
def Val.bd (v : Val) : Prop := v.plus.length < 2 ^ 40 ∧ v.minus.length < 2 ^ 40
theorem Val.ext_iff (a b : Val) : a = b ↔ a.kind = b.kind ∧ a.time = b.time ∧ a.node = b.node ∧ a.dead = b.dead ∧ a.text = b.text ∧ a.plus = b.plus ∧ a.minus = b.minus ∧ a.flags = b.flags := by
  cases a; cases b; simp
theorem c_value_Same (a b : Val) (ha : a.bd) : Fc Tryz.prog n_value_Same [a.sv, b.sv] (sb (decide (a = b))) := by
  obtain ⟨h1, h2⟩ := ha
  refine Fc.of_body tabOk q_value_Same (by kernel_rfl) ((blwL_cons (blw_val 0 a) (blwL_one (blw_val 0 b)))) (rfl) ?_
  conv => whnf
  rw [show decide (a = b) = decide (a.kind = b.kind ∧ a.time = b.time ∧ a.node = b.node ∧ a.dead = b.dead ∧ a.text = b.text ∧ a.plus = b.plus ∧ a.minus = b.minus ∧ a.flags = b.flags) from decide_eq_decide.2 (Val.ext_iff a b)]
  repeat' (first
    | (refine bltG (by first | omega | (simp only [List.length_map] at *; omega)) ?_; conv => whnf)
    | (refine ndG (by assumption) ?_; conv => whnf)
    | (refine mulG ?_; conv => whnf)
    | (refine And.intro rfl ?_; conv => whnf)
    | (refine dsT (by assumption) ?_; conv => whnf)
    | (refine dsF (by assumption) ?_; conv => whnf)
    | (refine nsT (by assumption) ?_; conv => whnf)
    | (refine nsF (by assumption) ?_; conv => whnf)
    | (refine bsT (by assumption) ?_; conv => whnf)
    | (refine bsF (by assumption) ?_; conv => whnf)
    | (refine dsp ?_ ?_ <;> intro _ <;> conv => whnf)
    | (refine nsp ?_ ?_ <;> intro _ <;> conv => whnf)
    | (refine cnd_true (by assumption) ?_; conv => whnf)
    | (refine cnd_false (by assumption) ?_; conv => whnf)
    | (refine cnd_split ?_ ?_ <;> intro _ <;> conv => whnf)
    | (refine Cd.par tabOk (by kernel_rfl) (by kernel_rfl) ?_; conv => whnf)
    | (refine Fc.use (c_slices_Equal_int a.plus b.plus (by omega)) ?_ ?_; (focus ((repeat' constructor); done)); conv => whnf)
    | (refine CallQ.of (c_slices_Equal_int a.plus b.plus (by omega)) ?_ ?_; (focus ((repeat' constructor); done)); conv => whnf)
    | (refine Fc.use (c_slices_Equal_int a.minus b.minus (by omega)) ?_ ?_; (focus ((repeat' constructor); done)); conv => whnf)
    | (refine CallQ.of (c_slices_Equal_int a.minus b.minus (by omega)) ?_ ?_; (focus ((repeat' constructor); done)); conv => whnf))
  all_goals first
    | rfl
    | (refine sbT ?_; ((try simp only [List.length_map] at *); first | omega | grind))
    | (refine sbF ?_; ((try simp only [List.length_map] at *); first | omega | grind))
    | (refine sbD ?_; ((try simp only [List.length_map] at *); first | omega | grind))
    | (refine sbB ?_; ((try simp only [List.length_map] at *); first | omega | grind))
    | (refine ivT ?_; ((try simp only [List.length_map] at *); first | omega | grind))
    | (refine ivF ?_; ((try simp only [List.length_map] at *); first | omega | grind))
    | (refine ivD ?_; ((try simp only [List.length_map] at *); first | omega | grind))
/-- The lattice of a kind. -/
def latOf (k : Int) : SV := if k = 1 then .ifc t_value_register (.agg []) else if k = 2 then .ifc t_value_counter (.agg []) else if k = 3 then .ifc t_value_flags (.agg []) else .v .nilIface
theorem c_value_kinds (k : Int) : Fc Tryz.prog n_value_kinds [iv k] (.tup [latOf k, sb (decide (1 ≤ k ∧ k ≤ 3))]) := by
  refine Fc.of_body tabOk q_value_kinds (by kernel_rfl) (rfl) (by unfold latOf; (repeat' split) <;> rfl) ?_
  conv => whnf
  repeat' (first
    | (refine bltG (by first | omega | (simp only [List.length_map] at *; omega)) ?_; conv => whnf)
    | (refine ndG (by assumption) ?_; conv => whnf)
    | (refine mulG ?_; conv => whnf)
    | (refine And.intro rfl ?_; conv => whnf)
    | (refine dsT (by assumption) ?_; conv => whnf)
    | (refine dsF (by assumption) ?_; conv => whnf)
    | (refine nsT (by assumption) ?_; conv => whnf)
    | (refine nsF (by assumption) ?_; conv => whnf)
    | (refine bsT (by assumption) ?_; conv => whnf)
    | (refine bsF (by assumption) ?_; conv => whnf)
    | (refine dsp ?_ ?_ <;> intro _ <;> conv => whnf)
    | (refine nsp ?_ ?_ <;> intro _ <;> conv => whnf)
    | (refine cnd_true (by assumption) ?_; conv => whnf)
    | (refine cnd_false (by assumption) ?_; conv => whnf)
    | (refine cnd_split ?_ ?_ <;> intro _ <;> conv => whnf)
    | (refine Cd.par tabOk (by kernel_rfl) (by kernel_rfl) ?_; conv => whnf))
  · subst k; (repeat' constructor); done
  · subst k; (repeat' constructor); done
  · subst k; (repeat' constructor); done
  · rw [show latOf k = .v .nilIface by unfold latOf; rw [if_neg ‹_›, if_neg ‹_›, if_neg ‹_›]]
    rw [show decide (1 ≤ k ∧ k ≤ 3) = false from decide_eq_false (by omega)]
    repeat' constructor
end Go.Proofs.YtmjpidjdbofdjaaGreat

/- Contracts: the lattices' tests. -/
set_option maxRecDepth 100000
namespace Go.Proofs.YtmjpidjdbofdjaaGreat
open Go Go.Sy
def regV (v : Val) : Val := ⟨v.kind, v.time, v.node, v.dead, v.text, [], [], 0⟩
def regIs (v : Val) : Prop := v = regV v ∧ 0 ≤ v.time ∧ v.time ≤ 2147483647 ∧ 0 ≤ v.node ∧ v.node < 8 ∧ v.text.size ≤ 8 ∧ (v.dead = true → v.text = ⟨#[]⟩)
instance (v : Val) : Decidable (regIs v) := by unfold regIs; infer_instance
theorem c_register_is (v : Val) (hv : v.bd) : Fc Tryz.prog n_value_register_is [.agg [], v.sv] (sb (decide (regIs v))) := by
  refine Fc.of_body tabOk q_value_register_is (by kernel_rfl) ((blwL_cons rfl (blwL_one (blw_val 0 v)))) (rfl) ?_
  conv => whnf
  repeat' (first
    | (refine bltG (by first | omega | (simp only [List.length_map] at *; omega)) ?_; conv => whnf)
    | (refine ndG (by assumption) ?_; conv => whnf)
    | (refine mulG ?_; conv => whnf)
    | (refine And.intro rfl ?_; conv => whnf)
    | (refine dsT (by assumption) ?_; conv => whnf)
    | (refine dsF (by assumption) ?_; conv => whnf)
    | (refine nsT (by assumption) ?_; conv => whnf)
    | (refine nsF (by assumption) ?_; conv => whnf)
    | (refine bsT (by assumption) ?_; conv => whnf)
    | (refine bsF (by assumption) ?_; conv => whnf)
    | (refine dsp ?_ ?_ <;> intro _ <;> conv => whnf)
    | (refine nsp ?_ ?_ <;> intro _ <;> conv => whnf)
    | (refine cnd_true (by assumption) ?_; conv => whnf)
    | (refine cnd_false (by assumption) ?_; conv => whnf)
    | (refine cnd_split ?_ ?_ <;> intro _ <;> conv => whnf)
    | (refine Cd.par tabOk (by kernel_rfl) (by kernel_rfl) ?_; conv => whnf)
    | (refine Tr.of_body tabOk q_value_only (by kernel_rfl) ?_; conv => whnf)
    | (refine Tr.of_body tabOk q_value_register_is_1 (by kernel_rfl) ?_; conv => whnf)
    | (refine Fc.use (c_value_Same v (regV v) hv) ?_ ?_; (focus ((repeat' constructor); done)); conv => whnf)
    | (refine CallQ.of (c_value_Same v (regV v) hv) ?_ ?_; (focus ((repeat' constructor); done)); conv => whnf))
  all_goals first
    | rfl
    | (refine sbT ?_; ((try simp only [List.length_map, regIs] at *); first | omega | grind))
    | (refine sbF ?_; ((try simp only [List.length_map, regIs] at *); first | omega | grind))
    | (refine sbD ?_; ((try simp only [List.length_map, regIs] at *); first | omega | grind))
    | (refine sbB ?_; ((try simp only [List.length_map, regIs] at *); first | omega | grind))
    | (refine ivT ?_; ((try simp only [List.length_map, regIs] at *); first | omega | grind))
    | (refine ivF ?_; ((try simp only [List.length_map, regIs] at *); first | omega | grind))
    | (refine ivD ?_; ((try simp only [List.length_map, regIs] at *); first | omega | grind))
theorem findIdx_at {α : Type} {p : α → Bool} : ∀ {l : List α} {i : Nat} {x : α}, l[i]? = some x → p x = true → (∀ x ∈ l.take i, p x = false) → l.findIdx? p = some i
  | [], i, x, h, _, _ => by simp at h
  | a :: r, 0, x, h, hx, _ => by simp at h; subst h; simp [List.findIdx?_cons, hx]
  | a :: r, i + 1, x, h, hx, hp => by
    have ha : p a = false := hp a (by simp)
    have := findIdx_at (l := r) (i := i) (x := x) (by simpa using h) hx (fun y hy => hp y (by simp [hy]))
    simp [List.findIdx?_cons, ha, this]
theorem findIdx_no {α : Type} {p : α → Bool} {l : List α} (h : ∀ x ∈ l, p x = false) : l.findIdx? p = none := by
  rw [List.findIdx?_eq_none_iff]; exact h
theorem c_slices_IndexFunc_int (p : Int → Bool) (g : Nat) (hg : ∀ n, Fc Tryz.prog g [iv n] (sb (p n))) (l : List Int) (hl : l.length < 2 ^ 62) :
    Fc Tryz.prog n_slices_IndexFunc_Lint_int [ints l, .clo (.func g) [] []] (iv (match l.findIdx? p with | some i => i | none => -1)) := by
  refine Fc.of_body tabOk q_slices_IndexFunc_Lint_int (by kernel_rfl) ((blwL_cons (blw_ints 0 l) (blwL_one rfl))) (by split <;> rfl) ?_
  conv => whnf
  refine loopP tabOk (fun i : Nat => i ≤ l.length ∧ ∀ x ∈ l.take i, p x = false) (fun i => ⟨[(8, iv i), (7, iv (l.map iv).length), (0, ints l), (1, .clo (.func g) [] [])], []⟩) (fun _ => ⟨0, [], []⟩) (fun i => l.length - i) 0 (by simp) (by repeat' constructor) (fun _ => rfl) ?_
  rintro i ⟨hi, hp⟩
  conv => whnf
  refine dsp ?_ ?_ <;> intro hlt <;> conv => whnf
  · simp only [List.length_map] at hlt
    obtain ⟨x, hx⟩ : ∃ x, l[i]? = some x := ⟨_, List.getElem?_eq_getElem (by omega)⟩
    repeat' (first
      | (refine bltG (by first | omega | (simp only [List.length_map] at *; omega)) ?_; conv => whnf)
      | (refine ndG (by assumption) ?_; conv => whnf)
      | (refine mulG ?_; conv => whnf)
      | (refine And.intro rfl ?_; conv => whnf)
      | (refine dsT (by assumption) ?_; conv => whnf)
      | (refine dsF (by assumption) ?_; conv => whnf)
      | (refine nsT (by assumption) ?_; conv => whnf)
      | (refine nsF (by assumption) ?_; conv => whnf)
      | (refine bsT (by assumption) ?_; conv => whnf)
      | (refine bsF (by assumption) ?_; conv => whnf)
      | (refine dsp ?_ ?_ <;> intro _ <;> conv => whnf)
      | (refine nsp ?_ ?_ <;> intro _ <;> conv => whnf)
      | (refine cnd_true (by assumption) ?_; conv => whnf)
      | (refine cnd_false (by assumption) ?_; conv => whnf)
      | (refine cnd_split ?_ ?_ <;> intro _ <;> conv => whnf)
      | (refine Cd.par tabOk (by kernel_rfl) (by kernel_rfl) ?_; conv => whnf)
      | (refine Fc.use (hg x) ?_ ?_; (focus ((repeat' constructor); done)); conv => whnf)
      | (refine CallQ.of (hg x) ?_ ?_; (focus ((repeat' constructor); done)); conv => whnf))
    · rw [show l.findIdx? p = some i from findIdx_at hx ‹_› hp]; rfl
    · refine ⟨i + 1, ⟨by omega, by rw [List.take_add_one, hx]; grind⟩, ?_, ?_⟩
      · first | omega | (simp only [List.length_map] at *; omega)
      · (repeat' constructor) <;> first | (refine ivW ?_ ?_ ?_ <;> first | omega | (dsimp only; omega))
  · rw [show l.findIdx? p = none from findIdx_no (by grind)]; rfl
end Go.Proofs.YtmjpidjdbofdjaaGreat

/- Contracts: tests of values, entries. -/
set_option maxRecDepth 100000
namespace Go.Proofs.YtmjpidjdbofdjaaGreat
open Go Go.Sy
theorem any_idx {α : Type} (p : α → Bool) (l : List α) : l.any p = decide ((0 : Int) ≤ match l.findIdx? p with | some i => (i : Int) | none => -1) := by
  cases h : l.findIdx? p with
  | none => rw [List.findIdx?_eq_none_iff] at h; simp; grind
  | some i => obtain ⟨h1, h2, _⟩ := List.findIdx?_eq_some_iff_getElem.1 h; simp; exact ⟨_, List.getElem_mem h1, h2⟩
theorem c_slices_ContainsFunc_int (p : Int → Bool) (g : Nat) (hg : ∀ n, Fc Tryz.prog g [iv n] (sb (p n))) (l : List Int) (hl : l.length < 2 ^ 62) :
    Fc Tryz.prog n_slices_ContainsFunc_Lint_int [ints l, .clo (.func g) [] []] (sb (l.any p)) := by
  refine Fc.of_body tabOk q_slices_ContainsFunc_Lint_int (by kernel_rfl) ((blwL_cons (blw_ints 0 l) (blwL_one rfl))) (rfl) ?_
  conv => whnf
  repeat' (first
    | (refine bltG (by first | omega | (simp only [List.length_map] at *; omega)) ?_; conv => whnf)
    | (refine ndG (by assumption) ?_; conv => whnf)
    | (refine mulG ?_; conv => whnf)
    | (refine And.intro rfl ?_; conv => whnf)
    | (refine dsT (by assumption) ?_; conv => whnf)
    | (refine dsF (by assumption) ?_; conv => whnf)
    | (refine nsT (by assumption) ?_; conv => whnf)
    | (refine nsF (by assumption) ?_; conv => whnf)
    | (refine bsT (by assumption) ?_; conv => whnf)
    | (refine bsF (by assumption) ?_; conv => whnf)
    | (refine dsp ?_ ?_ <;> intro _ <;> conv => whnf)
    | (refine nsp ?_ ?_ <;> intro _ <;> conv => whnf)
    | (refine cnd_true (by assumption) ?_; conv => whnf)
    | (refine cnd_false (by assumption) ?_; conv => whnf)
    | (refine cnd_split ?_ ?_ <;> intro _ <;> conv => whnf)
    | (refine Cd.par tabOk (by kernel_rfl) (by kernel_rfl) ?_; conv => whnf)
    | (refine Fc.use (c_slices_IndexFunc_int p g hg l hl) ?_ ?_; (focus ((repeat' constructor); done)); conv => whnf)
    | (refine CallQ.of (c_slices_IndexFunc_int p g hg l hl) ?_ ?_; (focus ((repeat' constructor); done)); conv => whnf))
  rw [show l.any p = decide ((0 : Int) ≤ match l.findIdx? p with | some i => i | none => -1) from any_idx p l]
  rfl
theorem c_counter_odd (n : Int) : Fc Tryz.prog n_value_counter_is_1 [iv n] (sb (decide (n < 0 ∨ 65535 < n))) := by
  refine Fc.of_body tabOk q_value_counter_is_1 (by kernel_rfl) (rfl) (rfl) ?_
  conv => whnf
  repeat' (first
    | (refine bltG (by first | omega | (simp only [List.length_map] at *; omega)) ?_; conv => whnf)
    | (refine ndG (by assumption) ?_; conv => whnf)
    | (refine mulG ?_; conv => whnf)
    | (refine And.intro rfl ?_; conv => whnf)
    | (refine dsT (by assumption) ?_; conv => whnf)
    | (refine dsF (by assumption) ?_; conv => whnf)
    | (refine nsT (by assumption) ?_; conv => whnf)
    | (refine nsF (by assumption) ?_; conv => whnf)
    | (refine bsT (by assumption) ?_; conv => whnf)
    | (refine bsF (by assumption) ?_; conv => whnf)
    | (refine dsp ?_ ?_ <;> intro _ <;> conv => whnf)
    | (refine nsp ?_ ?_ <;> intro _ <;> conv => whnf)
    | (refine cnd_true (by assumption) ?_; conv => whnf)
    | (refine cnd_false (by assumption) ?_; conv => whnf)
    | (refine cnd_split ?_ ?_ <;> intro _ <;> conv => whnf)
    | (refine Cd.par tabOk (by kernel_rfl) (by kernel_rfl) ?_; conv => whnf))
  all_goals first
    | rfl
    | (refine sbT ?_; ((try simp only [List.length_map] at *); first | omega | grind))
    | (refine sbF ?_; ((try simp only [List.length_map] at *); first | omega | grind))
    | (refine sbD ?_; ((try simp only [List.length_map] at *); first | omega | grind))
    | (refine sbB ?_; ((try simp only [List.length_map] at *); first | omega | grind))
    | (refine ivT ?_; ((try simp only [List.length_map] at *); first | omega | grind))
    | (refine ivF ?_; ((try simp only [List.length_map] at *); first | omega | grind))
    | (refine ivD ?_; ((try simp only [List.length_map] at *); first | omega | grind))
def cntV (v : Val) : Val := ⟨v.kind, 0, 0, false, ⟨#[]⟩, v.plus, v.minus, 0⟩
def cntIs (v : Val) : Prop := v = cntV v ∧ v.plus.length = 8 ∧ v.minus.length = 8 ∧ v.plus.any (fun n => decide (n < 0 ∨ 65535 < n)) = false ∧ v.minus.any (fun n => decide (n < 0 ∨ 65535 < n)) = false
instance (v : Val) : Decidable (cntIs v) := by unfold cntIs; infer_instance
theorem c_counter_is (v : Val) (hv : v.bd) : Fc Tryz.prog n_value_counter_is [.agg [], v.sv] (sb (decide (cntIs v))) := by
  have h1 := hv.1; have h2 := hv.2
  refine Fc.of_body tabOk q_value_counter_is (by kernel_rfl) ((blwL_cons rfl (blwL_one (blw_val 0 v)))) (rfl) ?_
  conv => whnf
  repeat' (first
    | (refine bltG (by first | omega | (simp only [List.length_map] at *; omega)) ?_; conv => whnf)
    | (refine ndG (by assumption) ?_; conv => whnf)
    | (refine mulG ?_; conv => whnf)
    | (refine And.intro rfl ?_; conv => whnf)
    | (refine dsT (by assumption) ?_; conv => whnf)
    | (refine dsF (by assumption) ?_; conv => whnf)
    | (refine nsT (by assumption) ?_; conv => whnf)
    | (refine nsF (by assumption) ?_; conv => whnf)
    | (refine bsT (by assumption) ?_; conv => whnf)
    | (refine bsF (by assumption) ?_; conv => whnf)
    | (refine dsp ?_ ?_ <;> intro _ <;> conv => whnf)
    | (refine nsp ?_ ?_ <;> intro _ <;> conv => whnf)
    | (refine cnd_true (by assumption) ?_; conv => whnf)
    | (refine cnd_false (by assumption) ?_; conv => whnf)
    | (refine cnd_split ?_ ?_ <;> intro _ <;> conv => whnf)
    | (refine Cd.par tabOk (by kernel_rfl) (by kernel_rfl) ?_; conv => whnf)
    | (refine Tr.of_body tabOk q_value_only (by kernel_rfl) ?_; conv => whnf)
    | (refine Tr.of_body tabOk q_value_counter_is_2 (by kernel_rfl) ?_; conv => whnf)
    | (refine Fc.use (c_value_Same v (cntV v) hv) ?_ ?_; (focus ((repeat' constructor); done)); conv => whnf)
    | (refine CallQ.of (c_value_Same v (cntV v) hv) ?_ ?_; (focus ((repeat' constructor); done)); conv => whnf)
    | (refine Fc.use (c_slices_ContainsFunc_int _ _ c_counter_odd v.plus (by omega)) ?_ ?_; (focus ((repeat' constructor); done)); conv => whnf)
    | (refine CallQ.of (c_slices_ContainsFunc_int _ _ c_counter_odd v.plus (by omega)) ?_ ?_; (focus ((repeat' constructor); done)); conv => whnf)
    | (refine Fc.use (c_slices_ContainsFunc_int _ _ c_counter_odd v.minus (by omega)) ?_ ?_; (focus ((repeat' constructor); done)); conv => whnf)
    | (refine CallQ.of (c_slices_ContainsFunc_int _ _ c_counter_odd v.minus (by omega)) ?_ ?_; (focus ((repeat' constructor); done)); conv => whnf))
  all_goals first
    | rfl
    | (refine sbT ?_; ((try simp only [List.length_map, cntIs] at *); first | omega | grind))
    | (refine sbF ?_; ((try simp only [List.length_map, cntIs] at *); first | omega | grind))
    | (refine sbD ?_; ((try simp only [List.length_map, cntIs] at *); first | omega | grind))
    | (refine sbB ?_; ((try simp only [List.length_map, cntIs] at *); first | omega | grind))
    | (refine ivT ?_; ((try simp only [List.length_map, cntIs] at *); first | omega | grind))
    | (refine ivF ?_; ((try simp only [List.length_map, cntIs] at *); first | omega | grind))
    | (refine ivD ?_; ((try simp only [List.length_map, cntIs] at *); first | omega | grind))
def flgV (v : Val) : Val := ⟨v.kind, 0, 0, false, ⟨#[]⟩, [], [], v.flags⟩
theorem c_flags_is (v : Val) (hv : v.bd) : Fc Tryz.prog n_value_flags_is [.agg [], v.sv] (sb (decide (v = flgV v))) := by
  refine Fc.of_body tabOk q_value_flags_is (by kernel_rfl) ((blwL_cons rfl (blwL_one (blw_val 0 v)))) (rfl) ?_
  conv => whnf
  repeat' (first
    | (refine bltG (by first | omega | (simp only [List.length_map] at *; omega)) ?_; conv => whnf)
    | (refine ndG (by assumption) ?_; conv => whnf)
    | (refine mulG ?_; conv => whnf)
    | (refine And.intro rfl ?_; conv => whnf)
    | (refine dsT (by assumption) ?_; conv => whnf)
    | (refine dsF (by assumption) ?_; conv => whnf)
    | (refine nsT (by assumption) ?_; conv => whnf)
    | (refine nsF (by assumption) ?_; conv => whnf)
    | (refine bsT (by assumption) ?_; conv => whnf)
    | (refine bsF (by assumption) ?_; conv => whnf)
    | (refine dsp ?_ ?_ <;> intro _ <;> conv => whnf)
    | (refine nsp ?_ ?_ <;> intro _ <;> conv => whnf)
    | (refine cnd_true (by assumption) ?_; conv => whnf)
    | (refine cnd_false (by assumption) ?_; conv => whnf)
    | (refine cnd_split ?_ ?_ <;> intro _ <;> conv => whnf)
    | (refine Cd.par tabOk (by kernel_rfl) (by kernel_rfl) ?_; conv => whnf)
    | (refine Tr.of_body tabOk q_value_only (by kernel_rfl) ?_; conv => whnf)
    | (refine Tr.of_body tabOk q_value_flags_is_1 (by kernel_rfl) ?_; conv => whnf)
    | (refine Fc.use (c_value_Same v (flgV v) hv) ?_ ?_; (focus ((repeat' constructor); done)); conv => whnf)
    | (refine CallQ.of (c_value_Same v (flgV v) hv) ?_ ?_; (focus ((repeat' constructor); done)); conv => whnf))
  all_goals first
    | rfl
    | (refine sbT ?_; ((try simp only [List.length_map] at *); first | omega | grind))
    | (refine sbF ?_; ((try simp only [List.length_map] at *); first | omega | grind))
    | (refine sbD ?_; ((try simp only [List.length_map] at *); first | omega | grind))
    | (refine sbB ?_; ((try simp only [List.length_map] at *); first | omega | grind))
    | (refine ivT ?_; ((try simp only [List.length_map] at *); first | omega | grind))
    | (refine ivF ?_; ((try simp only [List.length_map] at *); first | omega | grind))
    | (refine ivD ?_; ((try simp only [List.length_map] at *); first | omega | grind))
def valOk (v : Val) : Prop := (v.kind = 1 ∧ regIs v) ∨ (v.kind = 2 ∧ cntIs v) ∨ (v.kind = 3 ∧ v = flgV v)
instance (v : Val) : Decidable (valOk v) := by unfold valOk; infer_instance
end Go.Proofs.YtmjpidjdbofdjaaGreat

/- Contracts: values, entries. -/
set_option maxRecDepth 100000
namespace Go.Proofs.YtmjpidjdbofdjaaGreat
open Go Go.Sy
theorem latOf1 {k : Int} (h : k = 1) : Fc Tryz.prog n_value_kinds [iv k] (.tup [.ifc t_value_register (.agg []), sb true]) := by
  have := c_value_kinds k; subst h; exact this
theorem latOf2 {k : Int} (h : k = 2) : Fc Tryz.prog n_value_kinds [iv k] (.tup [.ifc t_value_counter (.agg []), sb true]) := by
  have := c_value_kinds k; subst h; exact this
theorem latOf3 {k : Int} (h : k = 3) : Fc Tryz.prog n_value_kinds [iv k] (.tup [.ifc t_value_flags (.agg []), sb true]) := by
  have := c_value_kinds k; subst h; exact this
theorem latOf0 {k : Int} (h1 : k ≠ 1) (h2 : k ≠ 2) (h3 : k ≠ 3) : Fc Tryz.prog n_value_kinds [iv k] (.tup [.v .nilIface, sb false]) := by
  have := c_value_kinds k
  rw [show latOf k = .v .nilIface by unfold latOf; rw [if_neg h1, if_neg h2, if_neg h3], show decide (1 ≤ k ∧ k ≤ 3) = false from decide_eq_false (by omega)] at this
  exact this
def en (b : Prop) [Decidable b] : SV := iv (if b then 0 else 2)
theorem enF {p : Prop} [Decidable p] (h : ¬ p) : SV.v (.int .i64 2) = en p := by unfold en; rw [if_neg h]; rfl
theorem enT {p : Prop} [Decidable p] (h : p) : SV.v (.int .i64 0) = en p := by unfold en; rw [if_pos h]; rfl
theorem c_value_Check (v : Val) (hv : v.bd) : Fc Tryz.prog n_value_Check [v.sv] (en (valOk v)) := by
  by_cases h1 : v.kind = 1
  · refine Fc.of_body tabOk q_value_Check (by kernel_rfl) ((blwL_one (blw_val 0 v))) (rfl) ?_
    conv => whnf
    repeat' (first
      | (refine bltG (by first | omega | (simp only [List.length_map] at *; omega)) ?_; conv => whnf)
      | (refine ndG (by assumption) ?_; conv => whnf)
      | (refine mulG ?_; conv => whnf)
      | (refine And.intro rfl ?_; conv => whnf)
      | (refine dsT (by assumption) ?_; conv => whnf)
      | (refine dsF (by assumption) ?_; conv => whnf)
      | (refine nsT (by assumption) ?_; conv => whnf)
      | (refine nsF (by assumption) ?_; conv => whnf)
      | (refine bsT (by assumption) ?_; conv => whnf)
      | (refine bsF (by assumption) ?_; conv => whnf)
      | (refine dsp ?_ ?_ <;> intro _ <;> conv => whnf)
      | (refine nsp ?_ ?_ <;> intro _ <;> conv => whnf)
      | (refine cnd_true (by assumption) ?_; conv => whnf)
      | (refine cnd_false (by assumption) ?_; conv => whnf)
      | (refine cnd_split ?_ ?_ <;> intro _ <;> conv => whnf)
      | (refine Cd.par tabOk (by kernel_rfl) (by kernel_rfl) ?_; conv => whnf)
      | (refine Fc.use (latOf1 h1) ?_ ?_; (focus ((repeat' constructor); done)); conv => whnf)
      | (refine CallQ.of (latOf1 h1) ?_ ?_; (focus ((repeat' constructor); done)); conv => whnf)
      | (refine Exists.intro n_value_register_is (And.intro ?_ ?_); (focus kernel_rfl); conv => whnf)
      | (refine Fc.use (c_register_is v hv) ?_ ?_; (focus ((repeat' constructor); done)); conv => whnf)
      | (refine CallQ.of (c_register_is v hv) ?_ ?_; (focus ((repeat' constructor); done)); conv => whnf))
    all_goals unfold en
    all_goals first
      | rfl
      | (refine sbT ?_; ((try simp only [List.length_map, valOk] at *); first | omega | grind))
      | (refine sbF ?_; ((try simp only [List.length_map, valOk] at *); first | omega | grind))
      | (refine sbD ?_; ((try simp only [List.length_map, valOk] at *); first | omega | grind))
      | (refine sbB ?_; ((try simp only [List.length_map, valOk] at *); first | omega | grind))
      | (refine ivT ?_; ((try simp only [List.length_map, valOk] at *); first | omega | grind))
      | (refine ivF ?_; ((try simp only [List.length_map, valOk] at *); first | omega | grind))
      | (refine ivD ?_; ((try simp only [List.length_map, valOk] at *); first | omega | grind))
  by_cases h2 : v.kind = 2
  · refine Fc.of_body tabOk q_value_Check (by kernel_rfl) ((blwL_one (blw_val 0 v))) (rfl) ?_
    conv => whnf
    repeat' (first
      | (refine bltG (by first | omega | (simp only [List.length_map] at *; omega)) ?_; conv => whnf)
      | (refine ndG (by assumption) ?_; conv => whnf)
      | (refine mulG ?_; conv => whnf)
      | (refine And.intro rfl ?_; conv => whnf)
      | (refine dsT (by assumption) ?_; conv => whnf)
      | (refine dsF (by assumption) ?_; conv => whnf)
      | (refine nsT (by assumption) ?_; conv => whnf)
      | (refine nsF (by assumption) ?_; conv => whnf)
      | (refine bsT (by assumption) ?_; conv => whnf)
      | (refine bsF (by assumption) ?_; conv => whnf)
      | (refine dsp ?_ ?_ <;> intro _ <;> conv => whnf)
      | (refine nsp ?_ ?_ <;> intro _ <;> conv => whnf)
      | (refine cnd_true (by assumption) ?_; conv => whnf)
      | (refine cnd_false (by assumption) ?_; conv => whnf)
      | (refine cnd_split ?_ ?_ <;> intro _ <;> conv => whnf)
      | (refine Cd.par tabOk (by kernel_rfl) (by kernel_rfl) ?_; conv => whnf)
      | (refine Fc.use (latOf2 h2) ?_ ?_; (focus ((repeat' constructor); done)); conv => whnf)
      | (refine CallQ.of (latOf2 h2) ?_ ?_; (focus ((repeat' constructor); done)); conv => whnf)
      | (refine Exists.intro n_value_counter_is (And.intro ?_ ?_); (focus kernel_rfl); conv => whnf)
      | (refine Fc.use (c_counter_is v hv) ?_ ?_; (focus ((repeat' constructor); done)); conv => whnf)
      | (refine CallQ.of (c_counter_is v hv) ?_ ?_; (focus ((repeat' constructor); done)); conv => whnf))
    all_goals unfold en
    all_goals first
      | rfl
      | (refine sbT ?_; ((try simp only [List.length_map, valOk] at *); first | omega | grind))
      | (refine sbF ?_; ((try simp only [List.length_map, valOk] at *); first | omega | grind))
      | (refine sbD ?_; ((try simp only [List.length_map, valOk] at *); first | omega | grind))
      | (refine sbB ?_; ((try simp only [List.length_map, valOk] at *); first | omega | grind))
      | (refine ivT ?_; ((try simp only [List.length_map, valOk] at *); first | omega | grind))
      | (refine ivF ?_; ((try simp only [List.length_map, valOk] at *); first | omega | grind))
      | (refine ivD ?_; ((try simp only [List.length_map, valOk] at *); first | omega | grind))
  by_cases h3 : v.kind = 3
  · refine Fc.of_body tabOk q_value_Check (by kernel_rfl) ((blwL_one (blw_val 0 v))) (rfl) ?_
    conv => whnf
    repeat' (first
      | (refine bltG (by first | omega | (simp only [List.length_map] at *; omega)) ?_; conv => whnf)
      | (refine ndG (by assumption) ?_; conv => whnf)
      | (refine mulG ?_; conv => whnf)
      | (refine And.intro rfl ?_; conv => whnf)
      | (refine dsT (by assumption) ?_; conv => whnf)
      | (refine dsF (by assumption) ?_; conv => whnf)
      | (refine nsT (by assumption) ?_; conv => whnf)
      | (refine nsF (by assumption) ?_; conv => whnf)
      | (refine bsT (by assumption) ?_; conv => whnf)
      | (refine bsF (by assumption) ?_; conv => whnf)
      | (refine dsp ?_ ?_ <;> intro _ <;> conv => whnf)
      | (refine nsp ?_ ?_ <;> intro _ <;> conv => whnf)
      | (refine cnd_true (by assumption) ?_; conv => whnf)
      | (refine cnd_false (by assumption) ?_; conv => whnf)
      | (refine cnd_split ?_ ?_ <;> intro _ <;> conv => whnf)
      | (refine Cd.par tabOk (by kernel_rfl) (by kernel_rfl) ?_; conv => whnf)
      | (refine Fc.use (latOf3 h3) ?_ ?_; (focus ((repeat' constructor); done)); conv => whnf)
      | (refine CallQ.of (latOf3 h3) ?_ ?_; (focus ((repeat' constructor); done)); conv => whnf)
      | (refine Exists.intro n_value_flags_is (And.intro ?_ ?_); (focus kernel_rfl); conv => whnf)
      | (refine Fc.use (c_flags_is v hv) ?_ ?_; (focus ((repeat' constructor); done)); conv => whnf)
      | (refine CallQ.of (c_flags_is v hv) ?_ ?_; (focus ((repeat' constructor); done)); conv => whnf))
    all_goals unfold en
    all_goals first
      | rfl
      | (refine sbT ?_; ((try simp only [List.length_map, valOk] at *); first | omega | grind))
      | (refine sbF ?_; ((try simp only [List.length_map, valOk] at *); first | omega | grind))
      | (refine sbD ?_; ((try simp only [List.length_map, valOk] at *); first | omega | grind))
      | (refine sbB ?_; ((try simp only [List.length_map, valOk] at *); first | omega | grind))
      | (refine ivT ?_; ((try simp only [List.length_map, valOk] at *); first | omega | grind))
      | (refine ivF ?_; ((try simp only [List.length_map, valOk] at *); first | omega | grind))
      | (refine ivD ?_; ((try simp only [List.length_map, valOk] at *); first | omega | grind))
  · refine Fc.of_body tabOk q_value_Check (by kernel_rfl) ((blwL_one (blw_val 0 v))) (rfl) ?_
    conv => whnf
    repeat' (first
      | (refine bltG (by first | omega | (simp only [List.length_map] at *; omega)) ?_; conv => whnf)
      | (refine ndG (by assumption) ?_; conv => whnf)
      | (refine mulG ?_; conv => whnf)
      | (refine And.intro rfl ?_; conv => whnf)
      | (refine dsT (by assumption) ?_; conv => whnf)
      | (refine dsF (by assumption) ?_; conv => whnf)
      | (refine nsT (by assumption) ?_; conv => whnf)
      | (refine nsF (by assumption) ?_; conv => whnf)
      | (refine bsT (by assumption) ?_; conv => whnf)
      | (refine bsF (by assumption) ?_; conv => whnf)
      | (refine dsp ?_ ?_ <;> intro _ <;> conv => whnf)
      | (refine nsp ?_ ?_ <;> intro _ <;> conv => whnf)
      | (refine cnd_true (by assumption) ?_; conv => whnf)
      | (refine cnd_false (by assumption) ?_; conv => whnf)
      | (refine cnd_split ?_ ?_ <;> intro _ <;> conv => whnf)
      | (refine Cd.par tabOk (by kernel_rfl) (by kernel_rfl) ?_; conv => whnf)
      | (refine Fc.use (latOf0 h1 h2 h3) ?_ ?_; (focus ((repeat' constructor); done)); conv => whnf)
      | (refine CallQ.of (latOf0 h1 h2 h3) ?_ ?_; (focus ((repeat' constructor); done)); conv => whnf))
    all_goals unfold en
    all_goals first
      | rfl
      | (refine sbT ?_; ((try simp only [List.length_map, valOk] at *); first | omega | grind))
      | (refine sbF ?_; ((try simp only [List.length_map, valOk] at *); first | omega | grind))
      | (refine sbD ?_; ((try simp only [List.length_map, valOk] at *); first | omega | grind))
      | (refine sbB ?_; ((try simp only [List.length_map, valOk] at *); first | omega | grind))
      | (refine ivT ?_; ((try simp only [List.length_map, valOk] at *); first | omega | grind))
      | (refine ivF ?_; ((try simp only [List.length_map, valOk] at *); first | omega | grind))
      | (refine ivD ?_; ((try simp only [List.length_map, valOk] at *); first | omega | grind))
def Ent.bd (e : Ent) : Prop := e.val.bd
def entOk (e : Ent) : Prop := e.key ≠ ⟨#[]⟩ ∧ e.key.size ≤ 8 ∧ valOk e.val
instance (e : Ent) : Decidable (entOk e) := by unfold entOk; infer_instance
theorem c_entry_Check (e : Ent) (he : e.bd) : Fc Tryz.prog n_entry_Check [e.sv] (en (entOk e)) := by
  refine Fc.of_body tabOk q_entry_Check (by kernel_rfl) ((blwL_one (blw_ent 0 e))) (rfl) ?_
  conv => whnf
  repeat' (first
    | (refine bltG (by first | omega | (simp only [List.length_map] at *; omega)) ?_; conv => whnf)
    | (refine ndG (by assumption) ?_; conv => whnf)
    | (refine mulG ?_; conv => whnf)
    | (refine And.intro rfl ?_; conv => whnf)
    | (refine dsT (by assumption) ?_; conv => whnf)
    | (refine dsF (by assumption) ?_; conv => whnf)
    | (refine nsT (by assumption) ?_; conv => whnf)
    | (refine nsF (by assumption) ?_; conv => whnf)
    | (refine bsT (by assumption) ?_; conv => whnf)
    | (refine bsF (by assumption) ?_; conv => whnf)
    | (refine dsp ?_ ?_ <;> intro _ <;> conv => whnf)
    | (refine nsp ?_ ?_ <;> intro _ <;> conv => whnf)
    | (refine cnd_true (by assumption) ?_; conv => whnf)
    | (refine cnd_false (by assumption) ?_; conv => whnf)
    | (refine cnd_split ?_ ?_ <;> intro _ <;> conv => whnf)
    | (refine Cd.par tabOk (by kernel_rfl) (by kernel_rfl) ?_; conv => whnf)
    | (refine Fc.use (c_value_Check e.val he) ?_ ?_; (focus ((repeat' constructor); done)); conv => whnf)
    | (refine CallQ.of (c_value_Check e.val he) ?_ ?_; (focus ((repeat' constructor); done)); conv => whnf))
  all_goals unfold en
  all_goals first
    | rfl
    | (refine sbT ?_; ((try simp only [List.length_map, entOk] at *); first | omega | grind))
    | (refine sbF ?_; ((try simp only [List.length_map, entOk] at *); first | omega | grind))
    | (refine sbD ?_; ((try simp only [List.length_map, entOk] at *); first | omega | grind))
    | (refine sbB ?_; ((try simp only [List.length_map, entOk] at *); first | omega | grind))
    | (refine ivT ?_; ((try simp only [List.length_map, entOk] at *); first | omega | grind))
    | (refine ivF ?_; ((try simp only [List.length_map, entOk] at *); first | omega | grind))
    | (refine ivD ?_; ((try simp only [List.length_map, entOk] at *); first | omega | grind))
end Go.Proofs.YtmjpidjdbofdjaaGreat

/- Contracts: lists of entries. -/
set_option maxRecDepth 100000
namespace Go.Proofs.YtmjpidjdbofdjaaGreat
open Go Go.Sy
theorem c_arena_Check_1 (e : Ent) (he : e.bd) : Fc Tryz.prog n_arena_Check_1 [e.sv] (sb (decide (¬ entOk e))) := by
  refine Fc.of_body tabOk q_arena_Check_1 (by kernel_rfl) ((blwL_one (blw_ent 0 e))) (rfl) ?_
  conv => whnf
  repeat' (first
    | (refine bltG (by first | omega | (simp only [List.length_map] at *; omega)) ?_; conv => whnf)
    | (refine ndG (by assumption) ?_; conv => whnf)
    | (refine mulG ?_; conv => whnf)
    | (refine And.intro rfl ?_; conv => whnf)
    | (refine dsT (by assumption) ?_; conv => whnf)
    | (refine dsF (by assumption) ?_; conv => whnf)
    | (refine nsT (by assumption) ?_; conv => whnf)
    | (refine nsF (by assumption) ?_; conv => whnf)
    | (refine bsT (by assumption) ?_; conv => whnf)
    | (refine bsF (by assumption) ?_; conv => whnf)
    | (refine dsp ?_ ?_ <;> intro _ <;> conv => whnf)
    | (refine nsp ?_ ?_ <;> intro _ <;> conv => whnf)
    | (refine cnd_true (by assumption) ?_; conv => whnf)
    | (refine cnd_false (by assumption) ?_; conv => whnf)
    | (refine cnd_split ?_ ?_ <;> intro _ <;> conv => whnf)
    | (refine Cd.par tabOk (by kernel_rfl) (by kernel_rfl) ?_; conv => whnf)
    | (refine Fc.use (c_entry_Check e he) ?_ ?_; (focus ((repeat' constructor); done)); conv => whnf)
    | (refine CallQ.of (c_entry_Check e he) ?_ ?_; (focus ((repeat' constructor); done)); conv => whnf))
  by_cases h : entOk e
  · simp [h]; rfl
  · simp [h]; rfl
theorem c_frame_Check_1 (e : Ent) (he : e.bd) : Fc Tryz.prog n_frame_Check_1 [e.sv] (sb (decide (¬ entOk e))) := by
  refine Fc.of_body tabOk q_frame_Check_1 (by kernel_rfl) ((blwL_one (blw_ent 0 e))) (rfl) ?_
  conv => whnf
  repeat' (first
    | (refine bltG (by first | omega | (simp only [List.length_map] at *; omega)) ?_; conv => whnf)
    | (refine ndG (by assumption) ?_; conv => whnf)
    | (refine mulG ?_; conv => whnf)
    | (refine And.intro rfl ?_; conv => whnf)
    | (refine dsT (by assumption) ?_; conv => whnf)
    | (refine dsF (by assumption) ?_; conv => whnf)
    | (refine nsT (by assumption) ?_; conv => whnf)
    | (refine nsF (by assumption) ?_; conv => whnf)
    | (refine bsT (by assumption) ?_; conv => whnf)
    | (refine bsF (by assumption) ?_; conv => whnf)
    | (refine dsp ?_ ?_ <;> intro _ <;> conv => whnf)
    | (refine nsp ?_ ?_ <;> intro _ <;> conv => whnf)
    | (refine cnd_true (by assumption) ?_; conv => whnf)
    | (refine cnd_false (by assumption) ?_; conv => whnf)
    | (refine cnd_split ?_ ?_ <;> intro _ <;> conv => whnf)
    | (refine Cd.par tabOk (by kernel_rfl) (by kernel_rfl) ?_; conv => whnf)
    | (refine Fc.use (c_entry_Check e he) ?_ ?_; (focus ((repeat' constructor); done)); conv => whnf)
    | (refine CallQ.of (c_entry_Check e he) ?_ ?_; (focus ((repeat' constructor); done)); conv => whnf))
  by_cases h : entOk e
  · simp [h]; rfl
  · simp [h]; rfl
theorem c_slices_IndexFunc_Entry (p : Ent → Bool) (g : Nat) (l : List Ent) (hg : ∀ e ∈ l, Fc Tryz.prog g [e.sv] (sb (p e))) (hl : l.length < 2 ^ 62) :
    Fc Tryz.prog n_slices_IndexFunc_LEntry_Entry [ents l, .clo (.func g) [] []] (iv (match l.findIdx? p with | some i => i | none => -1)) := by
  refine Fc.of_body tabOk q_slices_IndexFunc_LEntry_Entry (by kernel_rfl) ((blwL_cons (blw_ents 0 l) (blwL_one rfl))) (by split <;> rfl) ?_
  conv => whnf
  refine loopP tabOk (fun i : Nat => i ≤ l.length ∧ ∀ x ∈ l.take i, p x = false) (fun i => ⟨[(8, iv i), (7, iv (l.map Ent.sv).length), (0, ents l), (1, .clo (.func g) [] [])], []⟩) (fun _ => ⟨0, [], []⟩) (fun i => l.length - i) 0 (by simp) (by repeat' constructor) (fun _ => rfl) ?_
  rintro i ⟨hi, hp⟩
  conv => whnf
  refine dsp ?_ ?_ <;> intro hlt <;> conv => whnf
  · simp only [List.length_map] at hlt
    obtain ⟨x, hx⟩ : ∃ x, l[i]? = some x := ⟨_, List.getElem?_eq_getElem (by omega)⟩
    repeat' (first
      | (refine bltG (by first | omega | (simp only [List.length_map] at *; omega)) ?_; conv => whnf)
      | (refine ndG (by assumption) ?_; conv => whnf)
      | (refine mulG ?_; conv => whnf)
      | (refine And.intro rfl ?_; conv => whnf)
      | (refine dsT (by assumption) ?_; conv => whnf)
      | (refine dsF (by assumption) ?_; conv => whnf)
      | (refine nsT (by assumption) ?_; conv => whnf)
      | (refine nsF (by assumption) ?_; conv => whnf)
      | (refine bsT (by assumption) ?_; conv => whnf)
      | (refine bsF (by assumption) ?_; conv => whnf)
      | (refine dsp ?_ ?_ <;> intro _ <;> conv => whnf)
      | (refine nsp ?_ ?_ <;> intro _ <;> conv => whnf)
      | (refine cnd_true (by assumption) ?_; conv => whnf)
      | (refine cnd_false (by assumption) ?_; conv => whnf)
      | (refine cnd_split ?_ ?_ <;> intro _ <;> conv => whnf)
      | (refine Cd.par tabOk (by kernel_rfl) (by kernel_rfl) ?_; conv => whnf)
      | (refine Fc.use (hg x (List.mem_of_getElem? hx)) ?_ ?_; (focus ((repeat' constructor); done)); conv => whnf)
      | (refine CallQ.of (hg x (List.mem_of_getElem? hx)) ?_ ?_; (focus ((repeat' constructor); done)); conv => whnf))
    · rw [show l.findIdx? p = some i from findIdx_at hx ‹_› hp]; rfl
    · refine ⟨i + 1, ⟨by omega, by rw [List.take_add_one, hx]; grind⟩, ?_, ?_⟩
      · first | omega | (simp only [List.length_map] at *; omega)
      · (repeat' constructor) <;> first | (refine ivW ?_ ?_ ?_ <;> first | omega | (dsimp only; omega))
  · rw [show l.findIdx? p = none from findIdx_no (by grind)]; rfl
theorem c_slices_ContainsFunc_Entry (p : Ent → Bool) (g : Nat) (l : List Ent) (hg : ∀ e ∈ l, Fc Tryz.prog g [e.sv] (sb (p e))) (hl : l.length < 2 ^ 62) :
    Fc Tryz.prog n_slices_ContainsFunc_LEntry_Entry [ents l, .clo (.func g) [] []] (sb (l.any p)) := by
  refine Fc.of_body tabOk q_slices_ContainsFunc_LEntry_Entry (by kernel_rfl) ((blwL_cons (blw_ents 0 l) (blwL_one rfl))) (rfl) ?_
  conv => whnf
  repeat' (first
    | (refine bltG (by first | omega | (simp only [List.length_map] at *; omega)) ?_; conv => whnf)
    | (refine ndG (by assumption) ?_; conv => whnf)
    | (refine mulG ?_; conv => whnf)
    | (refine And.intro rfl ?_; conv => whnf)
    | (refine dsT (by assumption) ?_; conv => whnf)
    | (refine dsF (by assumption) ?_; conv => whnf)
    | (refine nsT (by assumption) ?_; conv => whnf)
    | (refine nsF (by assumption) ?_; conv => whnf)
    | (refine bsT (by assumption) ?_; conv => whnf)
    | (refine bsF (by assumption) ?_; conv => whnf)
    | (refine dsp ?_ ?_ <;> intro _ <;> conv => whnf)
    | (refine nsp ?_ ?_ <;> intro _ <;> conv => whnf)
    | (refine cnd_true (by assumption) ?_; conv => whnf)
    | (refine cnd_false (by assumption) ?_; conv => whnf)
    | (refine cnd_split ?_ ?_ <;> intro _ <;> conv => whnf)
    | (refine Cd.par tabOk (by kernel_rfl) (by kernel_rfl) ?_; conv => whnf)
    | (refine Fc.use (c_slices_IndexFunc_Entry p g l hg hl) ?_ ?_; (focus ((repeat' constructor); done)); conv => whnf)
    | (refine CallQ.of (c_slices_IndexFunc_Entry p g l hg hl) ?_ ?_; (focus ((repeat' constructor); done)); conv => whnf))
  rw [show l.any p = decide ((0 : Int) ≤ match l.findIdx? p with | some i => i | none => -1) from any_idx p l]
  rfl
theorem any_ok {l : List Ent} : l.any (fun e => decide (¬ entOk e)) = !decide (∀ e ∈ l, entOk e) := by
  by_cases h : ∀ e ∈ l, entOk e
  · rw [decide_eq_true h]; simpa using h
  · rw [decide_eq_false h]; simpa using h
theorem c_odd_arena (l : List Ent) (h : ∀ e ∈ l, e.bd) (hl : l.length < 2 ^ 62) : Fc Tryz.prog n_slices_ContainsFunc_LEntry_Entry [ents l, .clo (.func n_arena_Check_1) [] []] (sb (!decide (∀ e ∈ l, entOk e))) := by
  rw [← any_ok]; exact c_slices_ContainsFunc_Entry _ _ l (fun e he => c_arena_Check_1 e (h e he)) hl
theorem c_odd_frame (l : List Ent) (h : ∀ e ∈ l, e.bd) (hl : l.length < 2 ^ 62) : Fc Tryz.prog n_slices_ContainsFunc_LEntry_Entry [ents l, .clo (.func n_frame_Check_1) [] []] (sb (!decide (∀ e ∈ l, entOk e))) := by
  rw [← any_ok]; exact c_slices_ContainsFunc_Entry _ _ l (fun e he => c_frame_Check_1 e (h e he)) hl
def entLt (a b : Ent) : Bool := if a.val.kind ≠ b.val.kind then decide (a.val.kind < b.val.kind) else Op.bytesLess a.key.toList b.key.toList
theorem c_entry_Less (a b : Ent) : Fc Tryz.prog n_entry_Less [a.sv, b.sv] (sb (entLt a b)) := by
  refine Fc.of_body tabOk q_entry_Less (by kernel_rfl) ((blwL_cons (blw_ent 0 a) (blwL_one (blw_ent 0 b)))) (rfl) ?_
  conv => whnf
  repeat' (first
    | (refine bltG (by first | omega | (simp only [List.length_map] at *; omega)) ?_; conv => whnf)
    | (refine ndG (by assumption) ?_; conv => whnf)
    | (refine mulG ?_; conv => whnf)
    | (refine And.intro rfl ?_; conv => whnf)
    | (refine dsT (by assumption) ?_; conv => whnf)
    | (refine dsF (by assumption) ?_; conv => whnf)
    | (refine nsT (by assumption) ?_; conv => whnf)
    | (refine nsF (by assumption) ?_; conv => whnf)
    | (refine bsT (by assumption) ?_; conv => whnf)
    | (refine bsF (by assumption) ?_; conv => whnf)
    | (refine dsp ?_ ?_ <;> intro _ <;> conv => whnf)
    | (refine nsp ?_ ?_ <;> intro _ <;> conv => whnf)
    | (refine cnd_true (by assumption) ?_; conv => whnf)
    | (refine cnd_false (by assumption) ?_; conv => whnf)
    | (refine cnd_split ?_ ?_ <;> intro _ <;> conv => whnf)
    | (refine Cd.par tabOk (by kernel_rfl) (by kernel_rfl) ?_; conv => whnf))
  · unfold entLt; rw [if_pos ‹_›]; rfl
  · unfold entLt; rw [if_neg (by simpa using ‹_›)]; rfl
end Go.Proofs.YtmjpidjdbofdjaaGreat

