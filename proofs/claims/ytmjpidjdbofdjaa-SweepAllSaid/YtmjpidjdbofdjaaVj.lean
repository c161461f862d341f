import Derived.Test.YtmjpidjdbofdjaaVi
/- Contracts: the laws' own comparisons; few. -/
set_option linter.unusedVariables false
set_option linter.unusedSimpArgs false
set_option maxRecDepth 100000
namespace Go.Proofs.Ytmjpidjdbofdjaa
open Go Go.Sy
theorem c_ref01_Ints (a b : List Int) (ha : a.length < 2 ^ 62) : Fc Try.prog n_ouroborosref01_Ints [ints a, ints b] (sb (decide (a = b))) := by
  refine Fc.of_body tabOk q_ouroborosref01_Ints (by kernel_rfl) ((blwL_cons (blw_ints 0 a) (blwL_one (blw_ints 0 b)))) (rfl) ?_
  conv => whnf
  refine nsp ?_ ?_ <;> intro h <;> conv => whnf
  · exact sbF (by grind)
  · have hl : a.length = b.length := by simp only [List.length_map] at h; omega
    refine loopP tabOk (fun i : Nat => i ≤ a.length ∧ a.take i = b.take i) (fun i => ⟨[(5, iv i), (0, ints a), (1, ints b)], []⟩) (fun _ => ⟨0, [], []⟩) (fun i => a.length - i) 0 (by simp) (by repeat' constructor) (fun _ => rfl) ?_
    rintro i ⟨hi, hp⟩
    conv => whnf
    refine dsp ?_ ?_ <;> intro hlt <;> conv => whnf
    · simp only [List.length_map] at hlt
      obtain ⟨x, hx⟩ : ∃ x, a[i]? = some x := ⟨_, List.getElem?_eq_getElem (by omega)⟩
      obtain ⟨y, hy⟩ : ∃ x, b[i]? = some x := ⟨_, List.getElem?_eq_getElem (by omega)⟩
      repeat' (first
        | (refine bltG (by first | omega | (simp only [List.length_map] at *; omega)) ?_; conv => whnf)
        | (refine ndG (by assumption) ?_; conv => whnf)
        | (refine mulG ?_; conv => whnf)
        | (refine And.intro rfl ?_; conv => whnf)
        | (refine dsT (by assumption) ?_; conv => whnf)
        | (refine dsF (by assumption) ?_; conv => whnf)
        | (refine nsT (by assumption) ?_; conv => whnf)
        | (refine nsF (by assumption) ?_; conv => whnf)
        | (refine bsT (by assumption) ?_; conv => whnf)
        | (refine bsF (by assumption) ?_; conv => whnf)
        | (refine dsp ?_ ?_ <;> intro _ <;> conv => whnf)
        | (refine nsp ?_ ?_ <;> intro _ <;> conv => whnf)
        | (refine cnd_true (by assumption) ?_; conv => whnf)
        | (refine cnd_false (by assumption) ?_; conv => whnf)
        | (refine cnd_split ?_ ?_ <;> intro _ <;> conv => whnf)
        | (refine Cd.par tabOk (by kernel_rfl) (by kernel_rfl) ?_; conv => whnf))
      · exact sbF (by grind)
      · refine ⟨i + 1, ⟨by omega, by rw [List.take_add_one, List.take_add_one, hx, hy, hp]; grind⟩, ?_, ?_⟩
        · first | omega | (simp only [List.length_map] at *; omega)
        · (repeat' constructor) <;> first | (refine ivW ?_ ?_ ?_ <;> omega)
    · repeat' (first
        | (refine bltG (by first | omega | (simp only [List.length_map] at *; omega)) ?_; conv => whnf)
        | (refine ndG (by assumption) ?_; conv => whnf)
        | (refine mulG ?_; conv => whnf)
        | (refine And.intro rfl ?_; conv => whnf)
        | (refine dsT (by assumption) ?_; conv => whnf)
        | (refine dsF (by assumption) ?_; conv => whnf)
        | (refine nsT (by assumption) ?_; conv => whnf)
        | (refine nsF (by assumption) ?_; conv => whnf)
        | (refine bsT (by assumption) ?_; conv => whnf)
        | (refine bsF (by assumption) ?_; conv => whnf)
        | (refine dsp ?_ ?_ <;> intro _ <;> conv => whnf)
        | (refine nsp ?_ ?_ <;> intro _ <;> conv => whnf)
        | (refine cnd_true (by assumption) ?_; conv => whnf)
        | (refine cnd_false (by assumption) ?_; conv => whnf)
        | (refine cnd_split ?_ ?_ <;> intro _ <;> conv => whnf)
        | (refine Cd.par tabOk (by kernel_rfl) (by kernel_rfl) ?_; conv => whnf))
      exact sbT (by grind)
theorem c_ref06_Same (a b : Val) (ha : a.bd) : Fc Try.prog n_ouroborosref06_Same [a.sv, b.sv] (sb (decide (a = b))) := by
  obtain ⟨h1, h2⟩ := ha
  refine Fc.of_body tabOk q_ouroborosref06_Same (by kernel_rfl) ((blwL_cons (blw_val 0 a) (blwL_one (blw_val 0 b)))) (rfl) ?_
  conv => whnf
  rw [show decide (a = b) = decide (a.kind = b.kind ∧ a.time = b.time ∧ a.node = b.node ∧ a.dead = b.dead ∧ a.text = b.text ∧ a.plus = b.plus ∧ a.minus = b.minus ∧ a.flags = b.flags) from decide_eq_decide.2 (Val.ext_iff a b)]
  repeat' (first
    | (refine bltG (by first | omega | (simp only [List.length_map] at *; omega)) ?_; conv => whnf)
    | (refine ndG (by assumption) ?_; conv => whnf)
    | (refine mulG ?_; conv => whnf)
    | (refine And.intro rfl ?_; conv => whnf)
    | (refine dsT (by assumption) ?_; conv => whnf)
    | (refine dsF (by assumption) ?_; conv => whnf)
    | (refine nsT (by assumption) ?_; conv => whnf)
    | (refine nsF (by assumption) ?_; conv => whnf)
    | (refine bsT (by assumption) ?_; conv => whnf)
    | (refine bsF (by assumption) ?_; conv => whnf)
    | (refine dsp ?_ ?_ <;> intro _ <;> conv => whnf)
    | (refine nsp ?_ ?_ <;> intro _ <;> conv => whnf)
    | (refine cnd_true (by assumption) ?_; conv => whnf)
    | (refine cnd_false (by assumption) ?_; conv => whnf)
    | (refine cnd_split ?_ ?_ <;> intro _ <;> conv => whnf)
    | (refine Cd.par tabOk (by kernel_rfl) (by kernel_rfl) ?_; conv => whnf)
    | (refine Fc.use (c_ref01_Ints a.plus b.plus (by omega)) ?_ ?_; (focus ((repeat' constructor); done)); conv => whnf)
    | (refine CallQ.of (c_ref01_Ints a.plus b.plus (by omega)) ?_ ?_; (focus ((repeat' constructor); done)); conv => whnf)
    | (refine Fc.use (c_ref01_Ints a.minus b.minus (by omega)) ?_ ?_; (focus ((repeat' constructor); done)); conv => whnf)
    | (refine CallQ.of (c_ref01_Ints a.minus b.minus (by omega)) ?_ ?_; (focus ((repeat' constructor); done)); conv => whnf))
  all_goals first
    | rfl
    | (refine sbT ?_; ((try simp only [List.length_map] at *); first | omega | grind))
    | (refine sbF ?_; ((try simp only [List.length_map] at *); first | omega | grind))
    | (refine sbD ?_; ((try simp only [List.length_map] at *); first | omega | grind))
    | (refine sbB ?_; ((try simp only [List.length_map] at *); first | omega | grind))
    | (refine ivT ?_; ((try simp only [List.length_map] at *); first | omega | grind))
    | (refine ivF ?_; ((try simp only [List.length_map] at *); first | omega | grind))
    | (refine ivD ?_; ((try simp only [List.length_map] at *); first | omega | grind))
theorem Ent.ext_iff (a b : Ent) : a = b ↔ a.key = b.key ∧ a.val = b.val := by
  cases a; cases b; simp
theorem c_ref07_Same (a b : Ent) (ha : a.bd) : Fc Try.prog n_ouroborosref07_Same [a.sv, b.sv] (sb (decide (a = b))) := by
  refine Fc.of_body tabOk q_ouroborosref07_Same (by kernel_rfl) ((blwL_cons (blw_ent 0 a) (blwL_one (blw_ent 0 b)))) (rfl) ?_
  conv => whnf
  rw [show decide (a = b) = decide (a.key = b.key ∧ a.val = b.val) from decide_eq_decide.2 (Ent.ext_iff a b)]
  repeat' (first
    | (refine bltG (by first | omega | (simp only [List.length_map] at *; omega)) ?_; conv => whnf)
    | (refine ndG (by assumption) ?_; conv => whnf)
    | (refine mulG ?_; conv => whnf)
    | (refine And.intro rfl ?_; conv => whnf)
    | (refine dsT (by assumption) ?_; conv => whnf)
    | (refine dsF (by assumption) ?_; conv => whnf)
    | (refine nsT (by assumption) ?_; conv => whnf)
    | (refine nsF (by assumption) ?_; conv => whnf)
    | (refine bsT (by assumption) ?_; conv => whnf)
    | (refine bsF (by assumption) ?_; conv => whnf)
    | (refine dsp ?_ ?_ <;> intro _ <;> conv => whnf)
    | (refine nsp ?_ ?_ <;> intro _ <;> conv => whnf)
    | (refine cnd_true (by assumption) ?_; conv => whnf)
    | (refine cnd_false (by assumption) ?_; conv => whnf)
    | (refine cnd_split ?_ ?_ <;> intro _ <;> conv => whnf)
    | (refine Cd.par tabOk (by kernel_rfl) (by kernel_rfl) ?_; conv => whnf)
    | (refine Fc.use (c_ref06_Same a.val b.val ha) ?_ ?_; (focus ((repeat' constructor); done)); conv => whnf)
    | (refine CallQ.of (c_ref06_Same a.val b.val ha) ?_ ?_; (focus ((repeat' constructor); done)); conv => whnf))
  all_goals first
    | rfl
    | (refine sbT ?_; ((try simp only [List.length_map] at *); first | omega | grind))
    | (refine sbF ?_; ((try simp only [List.length_map] at *); first | omega | grind))
    | (refine sbD ?_; ((try simp only [List.length_map] at *); first | omega | grind))
    | (refine sbB ?_; ((try simp only [List.length_map] at *); first | omega | grind))
    | (refine ivT ?_; ((try simp only [List.length_map] at *); first | omega | grind))
    | (refine ivF ?_; ((try simp only [List.length_map] at *); first | omega | grind))
    | (refine ivD ?_; ((try simp only [List.length_map] at *); first | omega | grind))
theorem c_ref07_All (a b : List Ent) (hb : ∀ e ∈ a, e.bd) (ha : a.length < 2 ^ 62) : Fc Try.prog n_ouroborosref07_All [ents a, ents b] (sb (decide (a = b))) := by
  refine Fc.of_body tabOk q_ouroborosref07_All (by kernel_rfl) ((blwL_cons (blw_ents 0 a) (blwL_one (blw_ents 0 b)))) (rfl) ?_
  conv => whnf
  refine nsp ?_ ?_ <;> intro h <;> conv => whnf
  · exact sbF (by grind)
  · have hl : a.length = b.length := by simp only [List.length_map] at h; omega
    refine loopP tabOk (fun i : Nat => i ≤ a.length ∧ a.take i = b.take i) (fun i => ⟨[(5, iv i), (0, ents a), (1, ents b)], []⟩) (fun _ => ⟨0, [], []⟩) (fun i => a.length - i) 0 (by simp) (by repeat' constructor) (fun _ => rfl) ?_
    rintro i ⟨hi, hp⟩
    conv => whnf
    refine dsp ?_ ?_ <;> intro hlt <;> conv => whnf
    · simp only [List.length_map] at hlt
      obtain ⟨x, hx⟩ : ∃ x, a[i]? = some x := ⟨_, List.getElem?_eq_getElem (by omega)⟩
      obtain ⟨y, hy⟩ : ∃ x, b[i]? = some x := ⟨_, List.getElem?_eq_getElem (by omega)⟩
      repeat' (first
        | (refine bltG (by first | omega | (simp only [List.length_map] at *; omega)) ?_; conv => whnf)
        | (refine ndG (by assumption) ?_; conv => whnf)
        | (refine mulG ?_; conv => whnf)
        | (refine And.intro rfl ?_; conv => whnf)
        | (refine dsT (by assumption) ?_; conv => whnf)
        | (refine dsF (by assumption) ?_; conv => whnf)
        | (refine nsT (by assumption) ?_; conv => whnf)
        | (refine nsF (by assumption) ?_; conv => whnf)
        | (refine bsT (by assumption) ?_; conv => whnf)
        | (refine bsF (by assumption) ?_; conv => whnf)
        | (refine dsp ?_ ?_ <;> intro _ <;> conv => whnf)
        | (refine nsp ?_ ?_ <;> intro _ <;> conv => whnf)
        | (refine cnd_true (by assumption) ?_; conv => whnf)
        | (refine cnd_false (by assumption) ?_; conv => whnf)
        | (refine cnd_split ?_ ?_ <;> intro _ <;> conv => whnf)
        | (refine Cd.par tabOk (by kernel_rfl) (by kernel_rfl) ?_; conv => whnf)
        | (refine Fc.use (c_ref07_Same x y (hb x (List.mem_of_getElem? hx))) ?_ ?_; (focus ((repeat' constructor); done)); conv => whnf)
        | (refine CallQ.of (c_ref07_Same x y (hb x (List.mem_of_getElem? hx))) ?_ ?_; (focus ((repeat' constructor); done)); conv => whnf))
      · exact sbF (by grind)
      · refine ⟨i + 1, ⟨by omega, by rw [List.take_add_one, List.take_add_one, hx, hy, hp]; grind⟩, ?_, ?_⟩
        · first | omega | (simp only [List.length_map] at *; omega)
        · (repeat' constructor) <;> first | (refine ivW ?_ ?_ ?_ <;> omega)
    · repeat' (first
        | (refine bltG (by first | omega | (simp only [List.length_map] at *; omega)) ?_; conv => whnf)
        | (refine ndG (by assumption) ?_; conv => whnf)
        | (refine mulG ?_; conv => whnf)
        | (refine And.intro rfl ?_; conv => whnf)
        | (refine dsT (by assumption) ?_; conv => whnf)
        | (refine dsF (by assumption) ?_; conv => whnf)
        | (refine nsT (by assumption) ?_; conv => whnf)
        | (refine nsF (by assumption) ?_; conv => whnf)
        | (refine bsT (by assumption) ?_; conv => whnf)
        | (refine bsF (by assumption) ?_; conv => whnf)
        | (refine dsp ?_ ?_ <;> intro _ <;> conv => whnf)
        | (refine nsp ?_ ?_ <;> intro _ <;> conv => whnf)
        | (refine cnd_true (by assumption) ?_; conv => whnf)
        | (refine cnd_false (by assumption) ?_; conv => whnf)
        | (refine cnd_split ?_ ?_ <;> intro _ <;> conv => whnf)
        | (refine Cd.par tabOk (by kernel_rfl) (by kernel_rfl) ?_; conv => whnf))
      exact sbT (by grind)
theorem few_bd {v : Val} (h : valFew v) : v.bd := ⟨by have := h.2.1; omega, by have := h.2.2; omega⟩
theorem c_law08_Entries (l : List Ent) (m : Int) (hm : 0 ≤ m ∧ m ≤ 1000) : Fc Try.prog n_ouroboroslaw08_Entries [ents l, iv m] (sb (decide (l.length ≤ m ∧ ∀ e ∈ l, entFew e))) := by
  refine Fc.of_body tabOk q_ouroboroslaw08_Entries (by kernel_rfl) ((blwL_cons (blw_ents 0 l) (blwL_one rfl))) (rfl) ?_
  conv => whnf
  refine loopP tabOk (fun i : Nat => i ≤ l.length ∧ (i : Int) ≤ m + 1 ∧ ∀ e ∈ l.take i, entFew e) (fun i => ⟨[(5, iv i), (0, ents l), (1, iv m)], []⟩) (fun _ => ⟨0, [], []⟩) (fun i => l.length - i) 0 (by simp; omega) (by repeat' constructor) (fun _ => rfl) ?_
  rintro i ⟨hi, hi2, hp⟩
  by_cases hlt : i < l.length
  · obtain ⟨x, hx⟩ : ∃ x, l[i]? = some x := ⟨_, List.getElem?_eq_getElem (by omega)⟩
    conv => whnf
    repeat' (first
      | (refine bltG (by first | omega | (simp only [List.length_map] at *; omega)) ?_; conv => whnf)
      | (refine ndG (by assumption) ?_; conv => whnf)
      | (refine mulG ?_; conv => whnf)
      | (refine And.intro rfl ?_; conv => whnf)
      | (refine dsT (by assumption) ?_; conv => whnf)
      | (refine dsF (by assumption) ?_; conv => whnf)
      | (refine nsT (by assumption) ?_; conv => whnf)
      | (refine nsF (by assumption) ?_; conv => whnf)
      | (refine bsT (by assumption) ?_; conv => whnf)
      | (refine bsF (by assumption) ?_; conv => whnf)
      | (refine dsp ?_ ?_ <;> intro _ <;> conv => whnf)
      | (refine nsp ?_ ?_ <;> intro _ <;> conv => whnf)
      | (refine cnd_true (by assumption) ?_; conv => whnf)
      | (refine cnd_false (by assumption) ?_; conv => whnf)
      | (refine cnd_split ?_ ?_ <;> intro _ <;> conv => whnf)
      | (refine Cd.par tabOk (by kernel_rfl) (by kernel_rfl) ?_; conv => whnf)
      | (refine Fc.use (c_law07_Few x) ?_ ?_; (focus ((repeat' constructor); done)); conv => whnf)
      | (refine CallQ.of (c_law07_Few x) ?_ ?_; (focus ((repeat' constructor); done)); conv => whnf))
    · refine sbF ?_
      exact fun h => absurd (h.2 x (List.mem_of_getElem? hx)) (by assumption)
    · have hp' : ∀ e ∈ l.take (i + 1), entFew e := by rw [List.take_add_one, hx]; grind
      refine ⟨i + 1, ⟨by omega, by omega, hp'⟩, ?_, ?_⟩
      · first | omega | (simp only [List.length_map] at *; omega)
      · (repeat' constructor) <;> first | (refine ivW ?_ ?_ ?_ <;> omega)
    · refine sbD ?_; simp only [List.length_map]; constructor
      · intro h; omega
      · intro h; exact h.1
    · exfalso; simp only [List.length_map] at *; omega
  · have hf : ¬ ((i : Int) < ((l.map Ent.sv).length : Nat)) := by simp only [List.length_map]; omega
    conv => whnf
    repeat' (first
      | (refine bltG (by first | omega | (simp only [List.length_map] at *; omega)) ?_; conv => whnf)
      | (refine ndG (by assumption) ?_; conv => whnf)
      | (refine mulG ?_; conv => whnf)
      | (refine And.intro rfl ?_; conv => whnf)
      | (refine dsT (by assumption) ?_; conv => whnf)
      | (refine dsF (by assumption) ?_; conv => whnf)
      | (refine nsT (by assumption) ?_; conv => whnf)
      | (refine nsF (by assumption) ?_; conv => whnf)
      | (refine bsT (by assumption) ?_; conv => whnf)
      | (refine bsF (by assumption) ?_; conv => whnf)
      | (refine dsp ?_ ?_ <;> intro _ <;> conv => whnf)
      | (refine nsp ?_ ?_ <;> intro _ <;> conv => whnf)
      | (refine cnd_true (by assumption) ?_; conv => whnf)
      | (refine cnd_false (by assumption) ?_; conv => whnf)
      | (refine cnd_split ?_ ?_ <;> intro _ <;> conv => whnf)
      | (refine Cd.par tabOk (by kernel_rfl) (by kernel_rfl) ?_; conv => whnf))
    have hp' : ∀ e ∈ l, entFew e := by rw [List.take_of_length_le (by omega)] at hp; exact hp
    refine sbD ?_
    simp only [List.length_map]
    exact ⟨fun h => ⟨h, hp'⟩, fun h => h.1⟩
def arFew (a : Ar) : Prop := (a.slots.length ≤ (12 : Int) ∧ ∀ e ∈ a.slots, entFew e) ∧ a.index.length ≤ 40
instance (a : Ar) : Decidable (arFew a) := by unfold arFew; infer_instance
theorem c_law08_Few (a : Ar) : Fc Try.prog n_ouroboroslaw08_Few [a.sv] (sb (decide (arFew a))) := by
  refine Fc.of_body tabOk q_ouroboroslaw08_Few (by kernel_rfl) ((blwL_one (blw_ar 0 a))) (rfl) ?_
  conv => whnf
  repeat' (first
    | (refine bltG (by first | omega | (simp only [List.length_map] at *; omega)) ?_; conv => whnf)
    | (refine ndG (by assumption) ?_; conv => whnf)
    | (refine mulG ?_; conv => whnf)
    | (refine And.intro rfl ?_; conv => whnf)
    | (refine dsT (by assumption) ?_; conv => whnf)
    | (refine dsF (by assumption) ?_; conv => whnf)
    | (refine nsT (by assumption) ?_; conv => whnf)
    | (refine nsF (by assumption) ?_; conv => whnf)
    | (refine bsT (by assumption) ?_; conv => whnf)
    | (refine bsF (by assumption) ?_; conv => whnf)
    | (refine dsp ?_ ?_ <;> intro _ <;> conv => whnf)
    | (refine nsp ?_ ?_ <;> intro _ <;> conv => whnf)
    | (refine cnd_true (by assumption) ?_; conv => whnf)
    | (refine cnd_false (by assumption) ?_; conv => whnf)
    | (refine cnd_split ?_ ?_ <;> intro _ <;> conv => whnf)
    | (refine Cd.par tabOk (by kernel_rfl) (by kernel_rfl) ?_; conv => whnf)
    | (refine Fc.use (c_law08_Entries a.slots 12 (by omega)) ?_ ?_; (focus ((repeat' constructor); done)); conv => whnf)
    | (refine CallQ.of (c_law08_Entries a.slots 12 (by omega)) ?_ ?_; (focus ((repeat' constructor); done)); conv => whnf))
  all_goals first
    | rfl
    | (refine sbT ?_; ((try simp only [List.length_map, arFew] at *); first | omega | grind))
    | (refine sbF ?_; ((try simp only [List.length_map, arFew] at *); first | omega | grind))
    | (refine sbD ?_; ((try simp only [List.length_map, arFew] at *); first | omega | grind))
    | (refine sbB ?_; ((try simp only [List.length_map, arFew] at *); first | omega | grind))
    | (refine ivT ?_; ((try simp only [List.length_map, arFew] at *); first | omega | grind))
    | (refine ivF ?_; ((try simp only [List.length_map, arFew] at *); first | omega | grind))
    | (refine ivD ?_; ((try simp only [List.length_map, arFew] at *); first | omega | grind))
theorem arFew.bd {a : Ar} (h : arFew a) : a.bd := ⟨fun e he => few_bd (h.1.2 e he).1, by have := h.1.1; omega, by have := h.2; omega⟩
theorem c_sweep_may (n : Int) : Fc Try.prog n_sweep_may [iv n] (sb (decide (1 ≤ n ∧ n ≤ 8))) := by
  refine Fc.of_body tabOk q_sweep_may (by kernel_rfl) (rfl) (rfl) ?_
  conv => whnf
  repeat' (first
    | (refine bltG (by first | omega | (simp only [List.length_map] at *; omega)) ?_; conv => whnf)
    | (refine ndG (by assumption) ?_; conv => whnf)
    | (refine mulG ?_; conv => whnf)
    | (refine And.intro rfl ?_; conv => whnf)
    | (refine dsT (by assumption) ?_; conv => whnf)
    | (refine dsF (by assumption) ?_; conv => whnf)
    | (refine nsT (by assumption) ?_; conv => whnf)
    | (refine nsF (by assumption) ?_; conv => whnf)
    | (refine bsT (by assumption) ?_; conv => whnf)
    | (refine bsF (by assumption) ?_; conv => whnf)
    | (refine dsp ?_ ?_ <;> intro _ <;> conv => whnf)
    | (refine nsp ?_ ?_ <;> intro _ <;> conv => whnf)
    | (refine cnd_true (by assumption) ?_; conv => whnf)
    | (refine cnd_false (by assumption) ?_; conv => whnf)
    | (refine cnd_split ?_ ?_ <;> intro _ <;> conv => whnf)
    | (refine Cd.par tabOk (by kernel_rfl) (by kernel_rfl) ?_; conv => whnf))
  all_goals first
    | rfl
    | (refine sbT ?_; ((try simp only [List.length_map] at *); first | omega | grind))
    | (refine sbF ?_; ((try simp only [List.length_map] at *); first | omega | grind))
    | (refine sbD ?_; ((try simp only [List.length_map] at *); first | omega | grind))
    | (refine sbB ?_; ((try simp only [List.length_map] at *); first | omega | grind))
    | (refine ivT ?_; ((try simp only [List.length_map] at *); first | omega | grind))
    | (refine ivF ?_; ((try simp only [List.length_map] at *); first | omega | grind))
    | (refine ivD ?_; ((try simp only [List.length_map] at *); first | omega | grind))
/-- Where a cursor stands in an arena. -/
def mend (c : Int) (a : Ar) : Int := if arOk a ∧ 0 ≤ c ∧ c < a.slots.length then c else 0
theorem c_place_in (c : Int) (a : Ar) (ha : a.bd) : Fc Try.prog n_sweep_place_in [iv c, a.sv] (iv (mend c a)) := by
  refine Fc.of_body tabOk q_sweep_place_in (by kernel_rfl) ((blwL_cons rfl (blwL_one (blw_ar 0 a)))) (rfl) ?_
  conv => whnf
  repeat' (first
    | (refine bltG (by first | omega | (simp only [List.length_map] at *; omega)) ?_; conv => whnf)
    | (refine ndG (by assumption) ?_; conv => whnf)
    | (refine mulG ?_; conv => whnf)
    | (refine And.intro rfl ?_; conv => whnf)
    | (refine dsT (by assumption) ?_; conv => whnf)
    | (refine dsF (by assumption) ?_; conv => whnf)
    | (refine nsT (by assumption) ?_; conv => whnf)
    | (refine nsF (by assumption) ?_; conv => whnf)
    | (refine bsT (by assumption) ?_; conv => whnf)
    | (refine bsF (by assumption) ?_; conv => whnf)
    | (refine dsp ?_ ?_ <;> intro _ <;> conv => whnf)
    | (refine nsp ?_ ?_ <;> intro _ <;> conv => whnf)
    | (refine cnd_true (by assumption) ?_; conv => whnf)
    | (refine cnd_false (by assumption) ?_; conv => whnf)
    | (refine cnd_split ?_ ?_ <;> intro _ <;> conv => whnf)
    | (refine Cd.par tabOk (by kernel_rfl) (by kernel_rfl) ?_; conv => whnf)
    | (refine Fc.use (c_arena_Check a ha) ?_ ?_; (focus ((repeat' constructor); done)); conv => whnf)
    | (refine CallQ.of (c_arena_Check a ha) ?_ ?_; (focus ((repeat' constructor); done)); conv => whnf))
  all_goals unfold mend
  all_goals try simp only [List.length_map] at *
  · refine ivF ?_; intro h; rw [if_pos h.1] at *; omega
  · refine ivF ?_; intro h; omega
  · refine ivF ?_; intro h; omega
  · refine ivT ?_
    refine ⟨?_, by omega, by omega⟩
    by_cases h : arOk a
    · exact h
    · rw [if_neg h] at *; omega
theorem c_sweep_Mend (c : Int) (a : Ar) (ha : a.bd) : Fc Try.prog n_sweep_Mend [iv c, a.sv] (iv (mend c a)) := by
  refine Fc.of_body tabOk q_sweep_Mend (by kernel_rfl) ((blwL_cons rfl (blwL_one (blw_ar 0 a)))) (rfl) ?_
  conv => whnf
  repeat' (first
    | (refine bltG (by first | omega | (simp only [List.length_map] at *; omega)) ?_; conv => whnf)
    | (refine ndG (by assumption) ?_; conv => whnf)
    | (refine mulG ?_; conv => whnf)
    | (refine And.intro rfl ?_; conv => whnf)
    | (refine dsT (by assumption) ?_; conv => whnf)
    | (refine dsF (by assumption) ?_; conv => whnf)
    | (refine nsT (by assumption) ?_; conv => whnf)
    | (refine nsF (by assumption) ?_; conv => whnf)
    | (refine bsT (by assumption) ?_; conv => whnf)
    | (refine bsF (by assumption) ?_; conv => whnf)
    | (refine dsp ?_ ?_ <;> intro _ <;> conv => whnf)
    | (refine nsp ?_ ?_ <;> intro _ <;> conv => whnf)
    | (refine cnd_true (by assumption) ?_; conv => whnf)
    | (refine cnd_false (by assumption) ?_; conv => whnf)
    | (refine cnd_split ?_ ?_ <;> intro _ <;> conv => whnf)
    | (refine Cd.par tabOk (by kernel_rfl) (by kernel_rfl) ?_; conv => whnf)
    | (refine Fc.use (c_place_in c a ha) ?_ ?_; (focus ((repeat' constructor); done)); conv => whnf)
    | (refine CallQ.of (c_place_in c a ha) ?_ ?_; (focus ((repeat' constructor); done)); conv => whnf))
  rfl
end Go.Proofs.Ytmjpidjdbofdjaa

