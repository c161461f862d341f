import Derived.Test.YtmjpidjdbofdjaaGreatPg
/- Contracts of the references: numbers, values, entries. -/
set_option linter.unusedVariables false
set_option linter.unusedSimpArgs false
set_option maxRecDepth 100000
set_option maxHeartbeats 1600000
namespace Go.Proofs.YtmjpidjdbofdjaaGreat
open Go Go.Sy
theorem r_Ints (a b : List Int) (ha : a.length < 2 ^ 62) : Fc Tryz.prog n_ouroborosref01_Ints [ints a, ints b] (sb (decide (a = b))) := by
  refine Fc.of_body tabOk q_ouroborosref01_Ints (by kernel_rfl) ((blwL_cons (blw_ints 0 a) (blwL_one (blw_ints 0 b)))) (rfl) ?_
  conv => whnf
  refine nsp ?_ ?_ <;> intro h <;> conv => whnf
  · exact sbF (by grind)
  · have hl : a.length = b.length := by simp only [List.length_map] at h; omega
    refine loopP tabOk (fun i : Nat => i ≤ a.length ∧ a.take i = b.take i) (fun i => ⟨[(5, iv i), (0, ints a), (1, ints b)], []⟩) (fun _ => ⟨0, [], []⟩) (fun i => a.length - i) 0 (by simp) (by repeat' constructor) (fun _ => rfl) ?_
    rintro i ⟨hi, hp⟩
    conv => whnf
    refine dsp ?_ ?_ <;> intro hlt <;> conv => whnf
    · simp only [List.length_map] at hlt
      obtain ⟨x, hx⟩ : ∃ x, a[i]? = some x := ⟨_, List.getElem?_eq_getElem (by omega)⟩
      obtain ⟨y, hy⟩ : ∃ x, b[i]? = some x := ⟨_, List.getElem?_eq_getElem (by omega)⟩
      repeat' (first
        | (refine bltG (by first | omega | (simp only [List.length_map] at *; omega)) ?_; conv => whnf)
        | (refine ndG (by assumption) ?_; conv => whnf)
        | (refine mulG ?_; conv => whnf)
        | (refine And.intro rfl ?_; conv => whnf)
        | (refine dsT (by assumption) ?_; conv => whnf)
        | (refine dsF (by assumption) ?_; conv => whnf)
        | (refine nsT (by assumption) ?_; conv => whnf)
        | (refine nsF (by assumption) ?_; conv => whnf)
        | (refine bsT (by assumption) ?_; conv => whnf)
        | (refine bsF (by assumption) ?_; conv => whnf)
        | (refine dsp ?_ ?_ <;> intro _ <;> conv => whnf)
        | (refine nsp ?_ ?_ <;> intro _ <;> conv => whnf)
        | (refine cnd_true (by assumption) ?_; conv => whnf)
        | (refine cnd_false (by assumption) ?_; conv => whnf)
        | (refine cnd_split ?_ ?_ <;> intro _ <;> conv => whnf)
        | (refine Cd.par tabOk (by kernel_rfl) (by kernel_rfl) ?_; conv => whnf))
      · exact sbF (by grind)
      · refine ⟨i + 1, ⟨by omega, by rw [List.take_add_one, List.take_add_one, hx, hy, hp]; grind⟩, ?_, ?_⟩
        · first | omega | (simp only [List.length_map] at *; omega)
        · (repeat' constructor) <;> first | (refine ivW ?_ ?_ ?_ <;> first | omega | (dsimp only; omega))
    · repeat' (first
        | (refine bltG (by first | omega | (simp only [List.length_map] at *; omega)) ?_; conv => whnf)
        | (refine ndG (by assumption) ?_; conv => whnf)
        | (refine mulG ?_; conv => whnf)
        | (refine And.intro rfl ?_; conv => whnf)
        | (refine dsT (by assumption) ?_; conv => whnf)
        | (refine dsF (by assumption) ?_; conv => whnf)
        | (refine nsT (by assumption) ?_; conv => whnf)
        | (refine nsF (by assumption) ?_; conv => whnf)
        | (refine bsT (by assumption) ?_; conv => whnf)
        | (refine bsF (by assumption) ?_; conv => whnf)
        | (refine dsp ?_ ?_ <;> intro _ <;> conv => whnf)
        | (refine nsp ?_ ?_ <;> intro _ <;> conv => whnf)
        | (refine cnd_true (by assumption) ?_; conv => whnf)
        | (refine cnd_false (by assumption) ?_; conv => whnf)
        | (refine cnd_split ?_ ?_ <;> intro _ <;> conv => whnf)
        | (refine Cd.par tabOk (by kernel_rfl) (by kernel_rfl) ?_; conv => whnf))
      exact sbT (by grind)
theorem r_noCount (v : Val) (hv : v.bd) : Fc Tryz.prog n_ouroborosref06_noCount [v.sv] (sb (decide (v.plus = [] ∧ v.minus = []))) := by
  obtain ⟨h1, h2⟩ := hv
  have hw : IntKind.wrap .i64 (((v.plus.map iv).length : Int) + ((v.minus.map iv).length : Int)) = (v.plus.length : Int) + v.minus.length := by rw [List.length_map, List.length_map]; exact wrap_i64 (by omega) (by omega)
  refine Fc.of_body tabOk q_ouroborosref06_noCount (by kernel_rfl) ((blwL_one (blw_val 0 v))) (rfl) ?_
  conv => whnf
  repeat' (first
    | (refine bltG (by first | omega | (simp only [List.length_map] at *; omega)) ?_; conv => whnf)
    | (refine ndG (by assumption) ?_; conv => whnf)
    | (refine mulG ?_; conv => whnf)
    | (refine And.intro rfl ?_; conv => whnf)
    | (refine dsT (by assumption) ?_; conv => whnf)
    | (refine dsF (by assumption) ?_; conv => whnf)
    | (refine nsT (by assumption) ?_; conv => whnf)
    | (refine nsF (by assumption) ?_; conv => whnf)
    | (refine bsT (by assumption) ?_; conv => whnf)
    | (refine bsF (by assumption) ?_; conv => whnf)
    | (refine dsp ?_ ?_ <;> intro _ <;> conv => whnf)
    | (refine nsp ?_ ?_ <;> intro _ <;> conv => whnf)
    | (refine cnd_true (by assumption) ?_; conv => whnf)
    | (refine cnd_false (by assumption) ?_; conv => whnf)
    | (refine cnd_split ?_ ?_ <;> intro _ <;> conv => whnf)
    | (refine Cd.par tabOk (by kernel_rfl) (by kernel_rfl) ?_; conv => whnf))
  refine sbD ?_
  rw [show (IntKind.wrap .i64 (((v.plus.map iv).length : Int) + ((v.minus.map iv).length : Int)) = 0) = ((v.plus.length : Int) + v.minus.length = 0) by rw [hw]]
  rw [← List.length_eq_zero_iff, ← List.length_eq_zero_iff]
  omega
theorem r_counts (l : List Int) (hl : l.length < 2 ^ 62) : Fc Tryz.prog n_ouroborosref06_counts [ints l] (sb (decide (l.length = 8 ∧ l.any (fun n => decide (n < 0 ∨ 65535 < n)) = false))) := by
  refine Fc.of_body tabOk q_ouroborosref06_counts (by kernel_rfl) ((blwL_one (blw_ints 0 l))) (rfl) ?_
  conv => whnf
  refine loopP tabOk (fun i : Nat => i ≤ l.length ∧ (l.take i).any (fun n => decide (n < 0 ∨ 65535 < n)) = false) (fun i => ⟨[(3, iv i), (0, ints l)], []⟩) (fun _ => ⟨0, [], []⟩) (fun i => l.length - i) 0 (by simp) (by repeat' constructor) (fun _ => rfl) ?_
  rintro i ⟨hi, hp⟩
  conv => whnf
  refine dsp ?_ ?_ <;> intro hlt <;> conv => whnf
  · simp only [List.length_map] at hlt
    obtain ⟨x, hx⟩ : ∃ x, l[i]? = some x := ⟨_, List.getElem?_eq_getElem (by omega)⟩
    have hxm := List.mem_of_getElem? hx
    have hno : (x < 0 ∨ 65535 < x) → ¬ (l.length = 8 ∧ l.any (fun n => decide (n < 0 ∨ 65535 < n)) = false) := fun h1 h2 => by
      have := h2.2
      rw [List.any_eq_false] at this
      exact absurd (decide_eq_true h1) (this x hxm)
    have hyes : ¬ (x < 0 ∨ 65535 < x) → (l.take (i + 1)).any (fun n => decide (n < 0 ∨ 65535 < n)) = false := fun h1 => by
      rw [List.take_add_one, hx, List.any_append, hp]
      simpa using h1
    repeat' (first
      | (refine bltG (by first | omega | (simp only [List.length_map] at *; omega)) ?_; conv => whnf)
      | (refine ndG (by assumption) ?_; conv => whnf)
      | (refine mulG ?_; conv => whnf)
      | (refine And.intro rfl ?_; conv => whnf)
      | (refine dsT (by assumption) ?_; conv => whnf)
      | (refine dsF (by assumption) ?_; conv => whnf)
      | (refine nsT (by assumption) ?_; conv => whnf)
      | (refine nsF (by assumption) ?_; conv => whnf)
      | (refine bsT (by assumption) ?_; conv => whnf)
      | (refine bsF (by assumption) ?_; conv => whnf)
      | (refine dsp ?_ ?_ <;> intro _ <;> conv => whnf)
      | (refine nsp ?_ ?_ <;> intro _ <;> conv => whnf)
      | (refine cnd_true (by assumption) ?_; conv => whnf)
      | (refine cnd_false (by assumption) ?_; conv => whnf)
      | (refine cnd_split ?_ ?_ <;> intro _ <;> conv => whnf)
      | (refine Cd.par tabOk (by kernel_rfl) (by kernel_rfl) ?_; conv => whnf))
    · exact sbF (hno (.inl ‹_›))
    · exact sbF (hno (.inr ‹_›))
    · refine ⟨i + 1, ⟨by omega, hyes (by omega)⟩, ?_, ?_⟩
      · first | omega | (simp only [List.length_map] at *; omega)
      · (repeat' constructor) <;> first | (refine ivW ?_ ?_ ?_ <;> first | omega | (dsimp only; omega))
  · have hie : i = l.length := by simp only [List.length_map] at hlt; omega
    subst hie
    rw [List.take_of_length_le (Nat.le_refl _)] at hp
    repeat' (first
      | (refine bltG (by first | omega | (simp only [List.length_map] at *; omega)) ?_; conv => whnf)
      | (refine ndG (by assumption) ?_; conv => whnf)
      | (refine mulG ?_; conv => whnf)
      | (refine And.intro rfl ?_; conv => whnf)
      | (refine dsT (by assumption) ?_; conv => whnf)
      | (refine dsF (by assumption) ?_; conv => whnf)
      | (refine nsT (by assumption) ?_; conv => whnf)
      | (refine nsF (by assumption) ?_; conv => whnf)
      | (refine bsT (by assumption) ?_; conv => whnf)
      | (refine bsF (by assumption) ?_; conv => whnf)
      | (refine dsp ?_ ?_ <;> intro _ <;> conv => whnf)
      | (refine nsp ?_ ?_ <;> intro _ <;> conv => whnf)
      | (refine cnd_true (by assumption) ?_; conv => whnf)
      | (refine cnd_false (by assumption) ?_; conv => whnf)
      | (refine cnd_split ?_ ?_ <;> intro _ <;> conv => whnf)
      | (refine Cd.par tabOk (by kernel_rfl) (by kernel_rfl) ?_; conv => whnf))
    exact sbD (by simp only [List.length_map]; constructor <;> intro h <;> first | exact ⟨by omega, hp⟩ | omega)
theorem r_noReg (v : Val) : Fc Tryz.prog n_ouroborosref06_noReg [v.sv] (sb (decide (v.time = 0 ∧ v.node = 0 ∧ v.dead = false ∧ v.text = ⟨#[]⟩))) := by
  refine Fc.of_body tabOk q_ouroborosref06_noReg (by kernel_rfl) ((blwL_one (blw_val 0 v))) (rfl) ?_
  conv => whnf
  repeat' (first
    | (refine bltG (by first | omega | (simp only [List.length_map] at *; omega)) ?_; conv => whnf)
    | (refine ndG (by assumption) ?_; conv => whnf)
    | (refine mulG ?_; conv => whnf)
    | (refine And.intro rfl ?_; conv => whnf)
    | (refine dsT (by assumption) ?_; conv => whnf)
    | (refine dsF (by assumption) ?_; conv => whnf)
    | (refine nsT (by assumption) ?_; conv => whnf)
    | (refine nsF (by assumption) ?_; conv => whnf)
    | (refine bsT (by assumption) ?_; conv => whnf)
    | (refine bsF (by assumption) ?_; conv => whnf)
    | (refine dsp ?_ ?_ <;> intro _ <;> conv => whnf)
    | (refine nsp ?_ ?_ <;> intro _ <;> conv => whnf)
    | (refine cnd_true (by assumption) ?_; conv => whnf)
    | (refine cnd_false (by assumption) ?_; conv => whnf)
    | (refine cnd_split ?_ ?_ <;> intro _ <;> conv => whnf)
    | (refine Cd.par tabOk (by kernel_rfl) (by kernel_rfl) ?_; conv => whnf))
  all_goals first
    | rfl
    | (refine sbT ?_; ((try simp only [List.length_map] at *); first | omega | grind))
    | (refine sbF ?_; ((try simp only [List.length_map] at *); first | omega | grind))
    | (refine sbD ?_; ((try simp only [List.length_map] at *); first | omega | grind))
    | (refine sbB ?_; ((try simp only [List.length_map] at *); first | omega | grind))
    | (refine ivT ?_; ((try simp only [List.length_map] at *); first | omega | grind))
    | (refine ivF ?_; ((try simp only [List.length_map] at *); first | omega | grind))
    | (refine ivD ?_; ((try simp only [List.length_map] at *); first | omega | grind))
theorem r_val_Check (v : Val) (hv : v.bd) : Fc Tryz.prog n_ouroborosref06_Check [v.sv] (sb (decide (valOk v))) := by
  have h1 := r_noCount v hv
  have h2 := r_noReg v
  have h3 := r_counts v.plus (by have := hv.1; omega)
  have h4 := r_counts v.minus (by have := hv.2; omega)
  have e1 : v.kind = 1 → (valOk v ↔ (0 ≤ v.time ∧ v.time ≤ 2147483647 ∧ 0 ≤ v.node ∧ v.node ≤ 7 ∧ v.text.size ≤ 8 ∧ (v.dead = false ∨ v.text = ⟨#[]⟩) ∧ (v.plus = [] ∧ v.minus = []) ∧ v.flags = 0)) := by
    intro k
    unfold valOk regIs regV
    rw [Val.ext_iff]
    simp only
    constructor
    · rintro (⟨_, ⟨_, _, _, _, _, a, b, c⟩, d, e, f, g, h, i⟩ | ⟨q, _⟩ | ⟨q, _⟩)
      · exact ⟨d, e, f, by omega, h, by cases hd : v.dead with | false => exact .inl rfl | true => exact .inr (i hd), ⟨a, b⟩, c⟩
      · omega
      · omega
    · rintro ⟨d, e, f, g, h, i, ⟨a, b⟩, c⟩
      exact .inl ⟨k, ⟨trivial, trivial, trivial, trivial, trivial, a, b, c⟩, d, e, f, by omega, h, fun hd => by rcases i with i | i; (rw [hd] at i; cases i); exact i⟩
  have e2 : v.kind = 2 → (valOk v ↔ ((v.plus.length = 8 ∧ v.plus.any (fun n => decide (n < 0 ∨ 65535 < n)) = false) ∧ (v.minus.length = 8 ∧ v.minus.any (fun n => decide (n < 0 ∨ 65535 < n)) = false) ∧ (v.time = 0 ∧ v.node = 0 ∧ v.dead = false ∧ v.text = ⟨#[]⟩) ∧ v.flags = 0)) := by
    intro k
    unfold valOk cntIs cntV
    rw [Val.ext_iff]
    simp only
    constructor
    · rintro (⟨q, _⟩ | ⟨_, ⟨_, a, b, c, d, _, _, e⟩, f, g, h, i⟩ | ⟨q, _⟩)
      · omega
      · exact ⟨⟨f, h⟩, ⟨g, i⟩, ⟨a, b, c, d⟩, e⟩
      · omega
    · rintro ⟨⟨f, h⟩, ⟨g, i⟩, ⟨a, b, c, d⟩, e⟩
      exact .inr (.inl ⟨k, ⟨trivial, a, b, c, d, trivial, trivial, e⟩, f, g, h, i⟩)
  have e3 : v.kind ≠ 1 → v.kind ≠ 2 → (valOk v ↔ (v.kind = 3 ∧ (v.time = 0 ∧ v.node = 0 ∧ v.dead = false ∧ v.text = ⟨#[]⟩) ∧ (v.plus = [] ∧ v.minus = []))) := by
    intro k1 k2
    unfold valOk flgV
    rw [Val.ext_iff]
    simp only
    constructor
    · rintro (⟨q, _⟩ | ⟨q, _⟩ | ⟨q, _, a, b, c, d, e, f, _⟩)
      · omega
      · omega
      · exact ⟨q, ⟨a, b, c, d⟩, ⟨e, f⟩⟩
    · rintro ⟨q, ⟨a, b, c, d⟩, ⟨e, f⟩⟩
      exact .inr (.inr ⟨q, trivial, a, b, c, d, e, f, trivial⟩)
  by_cases k1 : v.kind = 1
  · rw [show decide (valOk v) = decide _ from decide_eq_decide.2 (e1 k1)]
    refine Fc.of_body tabOk q_ouroborosref06_Check (by kernel_rfl) ((blwL_one (blw_val 0 v))) (rfl) ?_
    conv => whnf
    repeat' (first
      | (refine bltG (by first | omega | (simp only [List.length_map] at *; omega)) ?_; conv => whnf)
      | (refine ndG (by assumption) ?_; conv => whnf)
      | (refine mulG ?_; conv => whnf)
      | (refine And.intro rfl ?_; conv => whnf)
      | (refine dsT (by assumption) ?_; conv => whnf)
      | (refine dsF (by assumption) ?_; conv => whnf)
      | (refine nsT (by assumption) ?_; conv => whnf)
      | (refine nsF (by assumption) ?_; conv => whnf)
      | (refine bsT (by assumption) ?_; conv => whnf)
      | (refine bsF (by assumption) ?_; conv => whnf)
      | (refine dsp ?_ ?_ <;> intro _ <;> conv => whnf)
      | (refine nsp ?_ ?_ <;> intro _ <;> conv => whnf)
      | (refine cnd_true (by assumption) ?_; conv => whnf)
      | (refine cnd_false (by assumption) ?_; conv => whnf)
      | (refine cnd_split ?_ ?_ <;> intro _ <;> conv => whnf)
      | (refine Cd.par tabOk (by kernel_rfl) (by kernel_rfl) ?_; conv => whnf)
      | (refine Fc.use (h1) ?_ ?_; (focus ((repeat' constructor); done)); conv => whnf)
      | (refine CallQ.of (h1) ?_ ?_; (focus ((repeat' constructor); done)); conv => whnf))
    all_goals first
      | rfl
      | (refine sbT ?_; ((try simp only [List.length_map] at *); first | omega | grind))
      | (refine sbF ?_; ((try simp only [List.length_map] at *); first | omega | grind))
      | (refine sbD ?_; ((try simp only [List.length_map] at *); first | omega | grind))
      | (refine sbB ?_; ((try simp only [List.length_map] at *); first | omega | grind))
      | (refine ivT ?_; ((try simp only [List.length_map] at *); first | omega | grind))
      | (refine ivF ?_; ((try simp only [List.length_map] at *); first | omega | grind))
      | (refine ivD ?_; ((try simp only [List.length_map] at *); first | omega | grind))
  by_cases k2 : v.kind = 2
  · rw [show decide (valOk v) = decide _ from decide_eq_decide.2 (e2 k2)]
    refine Fc.of_body tabOk q_ouroborosref06_Check (by kernel_rfl) ((blwL_one (blw_val 0 v))) (rfl) ?_
    conv => whnf
    repeat' (first
      | (refine bltG (by first | omega | (simp only [List.length_map] at *; omega)) ?_; conv => whnf)
      | (refine ndG (by assumption) ?_; conv => whnf)
      | (refine mulG ?_; conv => whnf)
      | (refine And.intro rfl ?_; conv => whnf)
      | (refine dsT (by assumption) ?_; conv => whnf)
      | (refine dsF (by assumption) ?_; conv => whnf)
      | (refine nsT (by assumption) ?_; conv => whnf)
      | (refine nsF (by assumption) ?_; conv => whnf)
      | (refine bsT (by assumption) ?_; conv => whnf)
      | (refine bsF (by assumption) ?_; conv => whnf)
      | (refine dsp ?_ ?_ <;> intro _ <;> conv => whnf)
      | (refine nsp ?_ ?_ <;> intro _ <;> conv => whnf)
      | (refine cnd_true (by assumption) ?_; conv => whnf)
      | (refine cnd_false (by assumption) ?_; conv => whnf)
      | (refine cnd_split ?_ ?_ <;> intro _ <;> conv => whnf)
      | (refine Cd.par tabOk (by kernel_rfl) (by kernel_rfl) ?_; conv => whnf)
      | (refine Fc.use (h2) ?_ ?_; (focus ((repeat' constructor); done)); conv => whnf)
      | (refine CallQ.of (h2) ?_ ?_; (focus ((repeat' constructor); done)); conv => whnf)
      | (refine Fc.use (h3) ?_ ?_; (focus ((repeat' constructor); done)); conv => whnf)
      | (refine CallQ.of (h3) ?_ ?_; (focus ((repeat' constructor); done)); conv => whnf)
      | (refine Fc.use (h4) ?_ ?_; (focus ((repeat' constructor); done)); conv => whnf)
      | (refine CallQ.of (h4) ?_ ?_; (focus ((repeat' constructor); done)); conv => whnf))
    all_goals first
      | rfl
      | (refine sbT ?_; ((try simp only [List.length_map] at *); first | omega | grind))
      | (refine sbF ?_; ((try simp only [List.length_map] at *); first | omega | grind))
      | (refine sbD ?_; ((try simp only [List.length_map] at *); first | omega | grind))
      | (refine sbB ?_; ((try simp only [List.length_map] at *); first | omega | grind))
      | (refine ivT ?_; ((try simp only [List.length_map] at *); first | omega | grind))
      | (refine ivF ?_; ((try simp only [List.length_map] at *); first | omega | grind))
      | (refine ivD ?_; ((try simp only [List.length_map] at *); first | omega | grind))
  · rw [show decide (valOk v) = decide _ from decide_eq_decide.2 (e3 k1 k2)]
    refine Fc.of_body tabOk q_ouroborosref06_Check (by kernel_rfl) ((blwL_one (blw_val 0 v))) (rfl) ?_
    conv => whnf
    repeat' (first
      | (refine bltG (by first | omega | (simp only [List.length_map] at *; omega)) ?_; conv => whnf)
      | (refine ndG (by assumption) ?_; conv => whnf)
      | (refine mulG ?_; conv => whnf)
      | (refine And.intro rfl ?_; conv => whnf)
      | (refine dsT (by assumption) ?_; conv => whnf)
      | (refine dsF (by assumption) ?_; conv => whnf)
      | (refine nsT (by assumption) ?_; conv => whnf)
      | (refine nsF (by assumption) ?_; conv => whnf)
      | (refine bsT (by assumption) ?_; conv => whnf)
      | (refine bsF (by assumption) ?_; conv => whnf)
      | (refine dsp ?_ ?_ <;> intro _ <;> conv => whnf)
      | (refine nsp ?_ ?_ <;> intro _ <;> conv => whnf)
      | (refine cnd_true (by assumption) ?_; conv => whnf)
      | (refine cnd_false (by assumption) ?_; conv => whnf)
      | (refine cnd_split ?_ ?_ <;> intro _ <;> conv => whnf)
      | (refine Cd.par tabOk (by kernel_rfl) (by kernel_rfl) ?_; conv => whnf)
      | (refine Fc.use (h1) ?_ ?_; (focus ((repeat' constructor); done)); conv => whnf)
      | (refine CallQ.of (h1) ?_ ?_; (focus ((repeat' constructor); done)); conv => whnf)
      | (refine Fc.use (h2) ?_ ?_; (focus ((repeat' constructor); done)); conv => whnf)
      | (refine CallQ.of (h2) ?_ ?_; (focus ((repeat' constructor); done)); conv => whnf))
    all_goals first
      | rfl
      | (refine sbT ?_; ((try simp only [List.length_map] at *); first | omega | grind))
      | (refine sbF ?_; ((try simp only [List.length_map] at *); first | omega | grind))
      | (refine sbD ?_; ((try simp only [List.length_map] at *); first | omega | grind))
      | (refine sbB ?_; ((try simp only [List.length_map] at *); first | omega | grind))
      | (refine ivT ?_; ((try simp only [List.length_map] at *); first | omega | grind))
      | (refine ivF ?_; ((try simp only [List.length_map] at *); first | omega | grind))
      | (refine ivD ?_; ((try simp only [List.length_map] at *); first | omega | grind))
theorem r_val_Same (a b : Val) (ha : a.bd) : Fc Tryz.prog n_ouroborosref06_Same [a.sv, b.sv] (sb (decide (a = b))) := by
  obtain ⟨h1, h2⟩ := ha
  refine Fc.of_body tabOk q_ouroborosref06_Same (by kernel_rfl) ((blwL_cons (blw_val 0 a) (blwL_one (blw_val 0 b)))) (rfl) ?_
  conv => whnf
  rw [show decide (a = b) = decide (a.kind = b.kind ∧ a.time = b.time ∧ a.node = b.node ∧ a.dead = b.dead ∧ a.text = b.text ∧ a.plus = b.plus ∧ a.minus = b.minus ∧ a.flags = b.flags) from decide_eq_decide.2 (Val.ext_iff a b)]
  repeat' (first
    | (refine bltG (by first | omega | (simp only [List.length_map] at *; omega)) ?_; conv => whnf)
    | (refine ndG (by assumption) ?_; conv => whnf)
    | (refine mulG ?_; conv => whnf)
    | (refine And.intro rfl ?_; conv => whnf)
    | (refine dsT (by assumption) ?_; conv => whnf)
    | (refine dsF (by assumption) ?_; conv => whnf)
    | (refine nsT (by assumption) ?_; conv => whnf)
    | (refine nsF (by assumption) ?_; conv => whnf)
    | (refine bsT (by assumption) ?_; conv => whnf)
    | (refine bsF (by assumption) ?_; conv => whnf)
    | (refine dsp ?_ ?_ <;> intro _ <;> conv => whnf)
    | (refine nsp ?_ ?_ <;> intro _ <;> conv => whnf)
    | (refine cnd_true (by assumption) ?_; conv => whnf)
    | (refine cnd_false (by assumption) ?_; conv => whnf)
    | (refine cnd_split ?_ ?_ <;> intro _ <;> conv => whnf)
    | (refine Cd.par tabOk (by kernel_rfl) (by kernel_rfl) ?_; conv => whnf)
    | (refine Fc.use (r_Ints a.plus b.plus (by omega)) ?_ ?_; (focus ((repeat' constructor); done)); conv => whnf)
    | (refine CallQ.of (r_Ints a.plus b.plus (by omega)) ?_ ?_; (focus ((repeat' constructor); done)); conv => whnf)
    | (refine Fc.use (r_Ints a.minus b.minus (by omega)) ?_ ?_; (focus ((repeat' constructor); done)); conv => whnf)
    | (refine CallQ.of (r_Ints a.minus b.minus (by omega)) ?_ ?_; (focus ((repeat' constructor); done)); conv => whnf))
  all_goals first
    | rfl
    | (refine sbT ?_; ((try simp only [List.length_map] at *); first | omega | grind))
    | (refine sbF ?_; ((try simp only [List.length_map] at *); first | omega | grind))
    | (refine sbD ?_; ((try simp only [List.length_map] at *); first | omega | grind))
    | (refine sbB ?_; ((try simp only [List.length_map] at *); first | omega | grind))
    | (refine ivT ?_; ((try simp only [List.length_map] at *); first | omega | grind))
    | (refine ivF ?_; ((try simp only [List.length_map] at *); first | omega | grind))
    | (refine ivD ?_; ((try simp only [List.length_map] at *); first | omega | grind))
theorem size0 (s : ByteArray) : s = ⟨#[]⟩ ↔ s.size = 0 := ⟨fun h => by rw [h]; rfl, fun h => by
  cases s with
  | mk d => congr 1; exact Array.eq_empty_of_size_eq_zero h⟩
theorem r_ent_Check (e : Ent) (he : e.bd) : Fc Tryz.prog n_ouroborosref07_Check [e.sv] (sb (decide (entOk e))) := by
  have h := r_val_Check e.val he
  rw [show decide (entOk e) = decide (1 ≤ e.key.size ∧ e.key.size ≤ 8 ∧ valOk e.val) from decide_eq_decide.2 (by unfold entOk; rw [Ne, size0]; constructor <;> (rintro ⟨a, b, c⟩; exact ⟨by omega, b, c⟩))]
  refine Fc.of_body tabOk q_ouroborosref07_Check (by kernel_rfl) ((blwL_one (blw_ent 0 e))) (rfl) ?_
  conv => whnf
  repeat' (first
    | (refine bltG (by first | omega | (simp only [List.length_map] at *; omega)) ?_; conv => whnf)
    | (refine ndG (by assumption) ?_; conv => whnf)
    | (refine mulG ?_; conv => whnf)
    | (refine And.intro rfl ?_; conv => whnf)
    | (refine dsT (by assumption) ?_; conv => whnf)
    | (refine dsF (by assumption) ?_; conv => whnf)
    | (refine nsT (by assumption) ?_; conv => whnf)
    | (refine nsF (by assumption) ?_; conv => whnf)
    | (refine bsT (by assumption) ?_; conv => whnf)
    | (refine bsF (by assumption) ?_; conv => whnf)
    | (refine dsp ?_ ?_ <;> intro _ <;> conv => whnf)
    | (refine nsp ?_ ?_ <;> intro _ <;> conv => whnf)
    | (refine cnd_true (by assumption) ?_; conv => whnf)
    | (refine cnd_false (by assumption) ?_; conv => whnf)
    | (refine cnd_split ?_ ?_ <;> intro _ <;> conv => whnf)
    | (refine Cd.par tabOk (by kernel_rfl) (by kernel_rfl) ?_; conv => whnf)
    | (refine Fc.use (h) ?_ ?_; (focus ((repeat' constructor); done)); conv => whnf)
    | (refine CallQ.of (h) ?_ ?_; (focus ((repeat' constructor); done)); conv => whnf))
  all_goals first
    | rfl
    | (refine sbT ?_; ((try simp only [List.length_map] at *); first | omega | grind))
    | (refine sbF ?_; ((try simp only [List.length_map] at *); first | omega | grind))
    | (refine sbD ?_; ((try simp only [List.length_map] at *); first | omega | grind))
    | (refine sbB ?_; ((try simp only [List.length_map] at *); first | omega | grind))
    | (refine ivT ?_; ((try simp only [List.length_map] at *); first | omega | grind))
    | (refine ivF ?_; ((try simp only [List.length_map] at *); first | omega | grind))
    | (refine ivD ?_; ((try simp only [List.length_map] at *); first | omega | grind))
theorem r_ent_Same (a b : Ent) (ha : a.bd) : Fc Tryz.prog n_ouroborosref07_Same [a.sv, b.sv] (sb (decide (a = b))) := by
  have h := r_val_Same a.val b.val ha
  rw [show decide (a = b) = decide (a.key = b.key ∧ a.val = b.val) from decide_eq_decide.2 (by cases a; cases b; simp)]
  refine Fc.of_body tabOk q_ouroborosref07_Same (by kernel_rfl) ((blwL_cons (blw_ent 0 a) (blwL_one (blw_ent 0 b)))) (rfl) ?_
  conv => whnf
  repeat' (first
    | (refine bltG (by first | omega | (simp only [List.length_map] at *; omega)) ?_; conv => whnf)
    | (refine ndG (by assumption) ?_; conv => whnf)
    | (refine mulG ?_; conv => whnf)
    | (refine And.intro rfl ?_; conv => whnf)
    | (refine dsT (by assumption) ?_; conv => whnf)
    | (refine dsF (by assumption) ?_; conv => whnf)
    | (refine nsT (by assumption) ?_; conv => whnf)
    | (refine nsF (by assumption) ?_; conv => whnf)
    | (refine bsT (by assumption) ?_; conv => whnf)
    | (refine bsF (by assumption) ?_; conv => whnf)
    | (refine dsp ?_ ?_ <;> intro _ <;> conv => whnf)
    | (refine nsp ?_ ?_ <;> intro _ <;> conv => whnf)
    | (refine cnd_true (by assumption) ?_; conv => whnf)
    | (refine cnd_false (by assumption) ?_; conv => whnf)
    | (refine cnd_split ?_ ?_ <;> intro _ <;> conv => whnf)
    | (refine Cd.par tabOk (by kernel_rfl) (by kernel_rfl) ?_; conv => whnf)
    | (refine Fc.use (h) ?_ ?_; (focus ((repeat' constructor); done)); conv => whnf)
    | (refine CallQ.of (h) ?_ ?_; (focus ((repeat' constructor); done)); conv => whnf))
  all_goals first
    | rfl
    | (refine sbT ?_; ((try simp only [List.length_map] at *); first | omega | grind))
    | (refine sbF ?_; ((try simp only [List.length_map] at *); first | omega | grind))
    | (refine sbD ?_; ((try simp only [List.length_map] at *); first | omega | grind))
    | (refine sbB ?_; ((try simp only [List.length_map] at *); first | omega | grind))
    | (refine ivT ?_; ((try simp only [List.length_map] at *); first | omega | grind))
    | (refine ivF ?_; ((try simp only [List.length_map] at *); first | omega | grind))
    | (refine ivD ?_; ((try simp only [List.length_map] at *); first | omega | grind))
theorem r_Name (a b : Ent) : Fc Tryz.prog n_ouroborosref07_Name [a.sv, b.sv] (sb (decide (named a b))) := by
  refine Fc.of_body tabOk q_ouroborosref07_Name (by kernel_rfl) ((blwL_cons (blw_ent 0 a) (blwL_one (blw_ent 0 b)))) (rfl) ?_
  conv => whnf
  repeat' (first
    | (refine bltG (by first | omega | (simp only [List.length_map] at *; omega)) ?_; conv => whnf)
    | (refine ndG (by assumption) ?_; conv => whnf)
    | (refine mulG ?_; conv => whnf)
    | (refine And.intro rfl ?_; conv => whnf)
    | (refine dsT (by assumption) ?_; conv => whnf)
    | (refine dsF (by assumption) ?_; conv => whnf)
    | (refine nsT (by assumption) ?_; conv => whnf)
    | (refine nsF (by assumption) ?_; conv => whnf)
    | (refine bsT (by assumption) ?_; conv => whnf)
    | (refine bsF (by assumption) ?_; conv => whnf)
    | (refine dsp ?_ ?_ <;> intro _ <;> conv => whnf)
    | (refine nsp ?_ ?_ <;> intro _ <;> conv => whnf)
    | (refine cnd_true (by assumption) ?_; conv => whnf)
    | (refine cnd_false (by assumption) ?_; conv => whnf)
    | (refine cnd_split ?_ ?_ <;> intro _ <;> conv => whnf)
    | (refine Cd.par tabOk (by kernel_rfl) (by kernel_rfl) ?_; conv => whnf))
  all_goals first
    | rfl
    | (refine sbT ?_; ((try simp only [List.length_map, named] at *); first | omega | grind))
    | (refine sbF ?_; ((try simp only [List.length_map, named] at *); first | omega | grind))
    | (refine sbD ?_; ((try simp only [List.length_map, named] at *); first | omega | grind))
    | (refine sbB ?_; ((try simp only [List.length_map, named] at *); first | omega | grind))
    | (refine ivT ?_; ((try simp only [List.length_map, named] at *); first | omega | grind))
    | (refine ivF ?_; ((try simp only [List.length_map, named] at *); first | omega | grind))
    | (refine ivD ?_; ((try simp only [List.length_map, named] at *); first | omega | grind))
theorem r_Less (a b : Ent) : Fc Tryz.prog n_ouroborosref07_Less [a.sv, b.sv] (sb (entLt a b)) := by
  refine Fc.of_body tabOk q_ouroborosref07_Less (by kernel_rfl) ((blwL_cons (blw_ent 0 a) (blwL_one (blw_ent 0 b)))) (rfl) ?_
  conv => whnf
  repeat' (first
    | (refine bltG (by first | omega | (simp only [List.length_map] at *; omega)) ?_; conv => whnf)
    | (refine ndG (by assumption) ?_; conv => whnf)
    | (refine mulG ?_; conv => whnf)
    | (refine And.intro rfl ?_; conv => whnf)
    | (refine dsT (by assumption) ?_; conv => whnf)
    | (refine dsF (by assumption) ?_; conv => whnf)
    | (refine nsT (by assumption) ?_; conv => whnf)
    | (refine nsF (by assumption) ?_; conv => whnf)
    | (refine bsT (by assumption) ?_; conv => whnf)
    | (refine bsF (by assumption) ?_; conv => whnf)
    | (refine dsp ?_ ?_ <;> intro _ <;> conv => whnf)
    | (refine nsp ?_ ?_ <;> intro _ <;> conv => whnf)
    | (refine cnd_true (by assumption) ?_; conv => whnf)
    | (refine cnd_false (by assumption) ?_; conv => whnf)
    | (refine cnd_split ?_ ?_ <;> intro _ <;> conv => whnf)
    | (refine Cd.par tabOk (by kernel_rfl) (by kernel_rfl) ?_; conv => whnf))
  · unfold entLt; rw [if_pos ‹_›]; rfl
  · unfold entLt; rw [if_neg (by simpa using ‹_›)]; rfl
theorem r_All (a b : List Ent) (ha : a.length < 2 ^ 62) (hb : ∀ e ∈ a, e.bd) : Fc Tryz.prog n_ouroborosref07_All [ents a, ents b] (sb (decide (a = b))) := by
  refine Fc.of_body tabOk q_ouroborosref07_All (by kernel_rfl) ((blwL_cons (blw_ents 0 a) (blwL_one (blw_ents 0 b)))) (rfl) ?_
  conv => whnf
  refine nsp ?_ ?_ <;> intro h <;> conv => whnf
  · exact sbF (by grind)
  · have hl : a.length = b.length := by simp only [List.length_map] at h; omega
    refine loopP tabOk (fun i : Nat => i ≤ a.length ∧ a.take i = b.take i) (fun i => ⟨[(5, iv i), (0, ents a), (1, ents b)], []⟩) (fun _ => ⟨0, [], []⟩) (fun i => a.length - i) 0 (by simp) (by repeat' constructor) (fun _ => rfl) ?_
    rintro i ⟨hi, hp⟩
    conv => whnf
    refine dsp ?_ ?_ <;> intro hlt <;> conv => whnf
    · simp only [List.length_map] at hlt
      obtain ⟨x, hx⟩ : ∃ x, a[i]? = some x := ⟨_, List.getElem?_eq_getElem (by omega)⟩
      obtain ⟨y, hy⟩ : ∃ x, b[i]? = some x := ⟨_, List.getElem?_eq_getElem (by omega)⟩
      have hs := r_ent_Same x y (hb x (List.mem_of_getElem? hx))
      by_cases hxy : x = y
      · rw [decide_eq_true hxy] at hs
        repeat' (first
          | (refine bltG (by first | omega | (simp only [List.length_map] at *; omega)) ?_; conv => whnf)
          | (refine ndG (by assumption) ?_; conv => whnf)
          | (refine mulG ?_; conv => whnf)
          | (refine And.intro rfl ?_; conv => whnf)
          | (refine dsT (by assumption) ?_; conv => whnf)
          | (refine dsF (by assumption) ?_; conv => whnf)
          | (refine nsT (by assumption) ?_; conv => whnf)
          | (refine nsF (by assumption) ?_; conv => whnf)
          | (refine bsT (by assumption) ?_; conv => whnf)
          | (refine bsF (by assumption) ?_; conv => whnf)
          | (refine dsp ?_ ?_ <;> intro _ <;> conv => whnf)
          | (refine nsp ?_ ?_ <;> intro _ <;> conv => whnf)
          | (refine cnd_true (by assumption) ?_; conv => whnf)
          | (refine cnd_false (by assumption) ?_; conv => whnf)
          | (refine cnd_split ?_ ?_ <;> intro _ <;> conv => whnf)
          | (refine Cd.par tabOk (by kernel_rfl) (by kernel_rfl) ?_; conv => whnf)
          | (refine Fc.use (hs) ?_ ?_; (focus ((repeat' constructor); done)); conv => whnf)
          | (refine CallQ.of (hs) ?_ ?_; (focus ((repeat' constructor); done)); conv => whnf))
        refine ⟨i + 1, ⟨by omega, by rw [List.take_add_one, List.take_add_one, hx, hy, hp, hxy]⟩, ?_, ?_⟩
        · first | omega | (simp only [List.length_map] at *; omega)
        · (repeat' constructor) <;> first | (refine ivW ?_ ?_ ?_ <;> first | omega | (dsimp only; omega))
      · rw [decide_eq_false hxy] at hs
        repeat' (first
          | (refine bltG (by first | omega | (simp only [List.length_map] at *; omega)) ?_; conv => whnf)
          | (refine ndG (by assumption) ?_; conv => whnf)
          | (refine mulG ?_; conv => whnf)
          | (refine And.intro rfl ?_; conv => whnf)
          | (refine dsT (by assumption) ?_; conv => whnf)
          | (refine dsF (by assumption) ?_; conv => whnf)
          | (refine nsT (by assumption) ?_; conv => whnf)
          | (refine nsF (by assumption) ?_; conv => whnf)
          | (refine bsT (by assumption) ?_; conv => whnf)
          | (refine bsF (by assumption) ?_; conv => whnf)
          | (refine dsp ?_ ?_ <;> intro _ <;> conv => whnf)
          | (refine nsp ?_ ?_ <;> intro _ <;> conv => whnf)
          | (refine cnd_true (by assumption) ?_; conv => whnf)
          | (refine cnd_false (by assumption) ?_; conv => whnf)
          | (refine cnd_split ?_ ?_ <;> intro _ <;> conv => whnf)
          | (refine Cd.par tabOk (by kernel_rfl) (by kernel_rfl) ?_; conv => whnf)
          | (refine Fc.use (hs) ?_ ?_; (focus ((repeat' constructor); done)); conv => whnf)
          | (refine CallQ.of (hs) ?_ ?_; (focus ((repeat' constructor); done)); conv => whnf))
        exact sbF (by grind)
    · repeat' (first
        | (refine bltG (by first | omega | (simp only [List.length_map] at *; omega)) ?_; conv => whnf)
        | (refine ndG (by assumption) ?_; conv => whnf)
        | (refine mulG ?_; conv => whnf)
        | (refine And.intro rfl ?_; conv => whnf)
        | (refine dsT (by assumption) ?_; conv => whnf)
        | (refine dsF (by assumption) ?_; conv => whnf)
        | (refine nsT (by assumption) ?_; conv => whnf)
        | (refine nsF (by assumption) ?_; conv => whnf)
        | (refine bsT (by assumption) ?_; conv => whnf)
        | (refine bsF (by assumption) ?_; conv => whnf)
        | (refine dsp ?_ ?_ <;> intro _ <;> conv => whnf)
        | (refine nsp ?_ ?_ <;> intro _ <;> conv => whnf)
        | (refine cnd_true (by assumption) ?_; conv => whnf)
        | (refine cnd_false (by assumption) ?_; conv => whnf)
        | (refine cnd_split ?_ ?_ <;> intro _ <;> conv => whnf)
        | (refine Cd.par tabOk (by kernel_rfl) (by kernel_rfl) ?_; conv => whnf))
      exact sbT (by grind)
end Go.Proofs.YtmjpidjdbofdjaaGreat

