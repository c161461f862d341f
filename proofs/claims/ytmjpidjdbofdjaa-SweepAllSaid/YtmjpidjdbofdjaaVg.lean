import Derived.Test.YtmjpidjdbofdjaaVf
/- Contracts: lists of entries. -/
set_option linter.unusedVariables false
set_option linter.unusedSimpArgs false
set_option maxRecDepth 100000
namespace Go.Proofs.Ytmjpidjdbofdjaa
open Go Go.Sy
theorem c_arena_Check_1 (e : Ent) (he : e.bd) : Fc Try.prog n_arena_Check_1 [e.sv] (sb (decide (¬ entOk e))) := by
  refine Fc.of_body tabOk q_arena_Check_1 (by kernel_rfl) ((blwL_one (blw_ent 0 e))) (rfl) ?_
  conv => whnf
  repeat' (first
    | (refine bltG (by first | omega | (simp only [List.length_map] at *; omega)) ?_; conv => whnf)
    | (refine ndG (by assumption) ?_; conv => whnf)
    | (refine mulG ?_; conv => whnf)
    | (refine And.intro rfl ?_; conv => whnf)
    | (refine dsT (by assumption) ?_; conv => whnf)
    | (refine dsF (by assumption) ?_; conv => whnf)
    | (refine nsT (by assumption) ?_; conv => whnf)
    | (refine nsF (by assumption) ?_; conv => whnf)
    | (refine bsT (by assumption) ?_; conv => whnf)
    | (refine bsF (by assumption) ?_; conv => whnf)
    | (refine dsp ?_ ?_ <;> intro _ <;> conv => whnf)
    | (refine nsp ?_ ?_ <;> intro _ <;> conv => whnf)
    | (refine cnd_true (by assumption) ?_; conv => whnf)
    | (refine cnd_false (by assumption) ?_; conv => whnf)
    | (refine cnd_split ?_ ?_ <;> intro _ <;> conv => whnf)
    | (refine Cd.par tabOk (by kernel_rfl) (by kernel_rfl) ?_; conv => whnf)
    | (refine Fc.use (c_entry_Check e he) ?_ ?_; (focus ((repeat' constructor); done)); conv => whnf)
    | (refine CallQ.of (c_entry_Check e he) ?_ ?_; (focus ((repeat' constructor); done)); conv => whnf))
  by_cases h : entOk e
  · simp [h]; rfl
  · simp [h]; rfl
theorem c_frame_Check_1 (e : Ent) (he : e.bd) : Fc Try.prog n_frame_Check_1 [e.sv] (sb (decide (¬ entOk e))) := by
  refine Fc.of_body tabOk q_frame_Check_1 (by kernel_rfl) ((blwL_one (blw_ent 0 e))) (rfl) ?_
  conv => whnf
  repeat' (first
    | (refine bltG (by first | omega | (simp only [List.length_map] at *; omega)) ?_; conv => whnf)
    | (refine ndG (by assumption) ?_; conv => whnf)
    | (refine mulG ?_; conv => whnf)
    | (refine And.intro rfl ?_; conv => whnf)
    | (refine dsT (by assumption) ?_; conv => whnf)
    | (refine dsF (by assumption) ?_; conv => whnf)
    | (refine nsT (by assumption) ?_; conv => whnf)
    | (refine nsF (by assumption) ?_; conv => whnf)
    | (refine bsT (by assumption) ?_; conv => whnf)
    | (refine bsF (by assumption) ?_; conv => whnf)
    | (refine dsp ?_ ?_ <;> intro _ <;> conv => whnf)
    | (refine nsp ?_ ?_ <;> intro _ <;> conv => whnf)
    | (refine cnd_true (by assumption) ?_; conv => whnf)
    | (refine cnd_false (by assumption) ?_; conv => whnf)
    | (refine cnd_split ?_ ?_ <;> intro _ <;> conv => whnf)
    | (refine Cd.par tabOk (by kernel_rfl) (by kernel_rfl) ?_; conv => whnf)
    | (refine Fc.use (c_entry_Check e he) ?_ ?_; (focus ((repeat' constructor); done)); conv => whnf)
    | (refine CallQ.of (c_entry_Check e he) ?_ ?_; (focus ((repeat' constructor); done)); conv => whnf))
  by_cases h : entOk e
  · simp [h]; rfl
  · simp [h]; rfl
theorem c_slices_IndexFunc_Entry (p : Ent → Bool) (g : Nat) (l : List Ent) (hg : ∀ e ∈ l, Fc Try.prog g [e.sv] (sb (p e))) (hl : l.length < 2 ^ 62) :
    Fc Try.prog n_slices_IndexFunc_LEntry_Entry [ents l, .clo (.func g) [] []] (iv (match l.findIdx? p with | some i => i | none => -1)) := by
  refine Fc.of_body tabOk q_slices_IndexFunc_LEntry_Entry (by kernel_rfl) ((blwL_cons (blw_ents 0 l) (blwL_one rfl))) (by split <;> rfl) ?_
  conv => whnf
  refine loopP tabOk (fun i : Nat => i ≤ l.length ∧ ∀ x ∈ l.take i, p x = false) (fun i => ⟨[(8, iv i), (7, iv (l.map Ent.sv).length), (0, ents l), (1, .clo (.func g) [] [])], []⟩) (fun _ => ⟨0, [], []⟩) (fun i => l.length - i) 0 (by simp) (by repeat' constructor) (fun _ => rfl) ?_
  rintro i ⟨hi, hp⟩
  conv => whnf
  refine dsp ?_ ?_ <;> intro hlt <;> conv => whnf
  · simp only [List.length_map] at hlt
    obtain ⟨x, hx⟩ : ∃ x, l[i]? = some x := ⟨_, List.getElem?_eq_getElem (by omega)⟩
    repeat' (first
      | (refine bltG (by first | omega | (simp only [List.length_map] at *; omega)) ?_; conv => whnf)
      | (refine ndG (by assumption) ?_; conv => whnf)
      | (refine mulG ?_; conv => whnf)
      | (refine And.intro rfl ?_; conv => whnf)
      | (refine dsT (by assumption) ?_; conv => whnf)
      | (refine dsF (by assumption) ?_; conv => whnf)
      | (refine nsT (by assumption) ?_; conv => whnf)
      | (refine nsF (by assumption) ?_; conv => whnf)
      | (refine bsT (by assumption) ?_; conv => whnf)
      | (refine bsF (by assumption) ?_; conv => whnf)
      | (refine dsp ?_ ?_ <;> intro _ <;> conv => whnf)
      | (refine nsp ?_ ?_ <;> intro _ <;> conv => whnf)
      | (refine cnd_true (by assumption) ?_; conv => whnf)
      | (refine cnd_false (by assumption) ?_; conv => whnf)
      | (refine cnd_split ?_ ?_ <;> intro _ <;> conv => whnf)
      | (refine Cd.par tabOk (by kernel_rfl) (by kernel_rfl) ?_; conv => whnf)
      | (refine Fc.use (hg x (List.mem_of_getElem? hx)) ?_ ?_; (focus ((repeat' constructor); done)); conv => whnf)
      | (refine CallQ.of (hg x (List.mem_of_getElem? hx)) ?_ ?_; (focus ((repeat' constructor); done)); conv => whnf))
    · rw [show l.findIdx? p = some i from findIdx_at hx ‹_› hp]; rfl
    · refine ⟨i + 1, ⟨by omega, by rw [List.take_add_one, hx]; grind⟩, ?_, ?_⟩
      · first | omega | (simp only [List.length_map] at *; omega)
      · (repeat' constructor) <;> first | (refine ivW ?_ ?_ ?_ <;> omega)
  · rw [show l.findIdx? p = none from findIdx_no (by grind)]; rfl
theorem c_slices_ContainsFunc_Entry (p : Ent → Bool) (g : Nat) (l : List Ent) (hg : ∀ e ∈ l, Fc Try.prog g [e.sv] (sb (p e))) (hl : l.length < 2 ^ 62) :
    Fc Try.prog n_slices_ContainsFunc_LEntry_Entry [ents l, .clo (.func g) [] []] (sb (l.any p)) := by
  refine Fc.of_body tabOk q_slices_ContainsFunc_LEntry_Entry (by kernel_rfl) ((blwL_cons (blw_ents 0 l) (blwL_one rfl))) (rfl) ?_
  conv => whnf
  repeat' (first
    | (refine bltG (by first | omega | (simp only [List.length_map] at *; omega)) ?_; conv => whnf)
    | (refine ndG (by assumption) ?_; conv => whnf)
    | (refine mulG ?_; conv => whnf)
    | (refine And.intro rfl ?_; conv => whnf)
    | (refine dsT (by assumption) ?_; conv => whnf)
    | (refine dsF (by assumption) ?_; conv => whnf)
    | (refine nsT (by assumption) ?_; conv => whnf)
    | (refine nsF (by assumption) ?_; conv => whnf)
    | (refine bsT (by assumption) ?_; conv => whnf)
    | (refine bsF (by assumption) ?_; conv => whnf)
    | (refine dsp ?_ ?_ <;> intro _ <;> conv => whnf)
    | (refine nsp ?_ ?_ <;> intro _ <;> conv => whnf)
    | (refine cnd_true (by assumption) ?_; conv => whnf)
    | (refine cnd_false (by assumption) ?_; conv => whnf)
    | (refine cnd_split ?_ ?_ <;> intro _ <;> conv => whnf)
    | (refine Cd.par tabOk (by kernel_rfl) (by kernel_rfl) ?_; conv => whnf)
    | (refine Fc.use (c_slices_IndexFunc_Entry p g l hg hl) ?_ ?_; (focus ((repeat' constructor); done)); conv => whnf)
    | (refine CallQ.of (c_slices_IndexFunc_Entry p g l hg hl) ?_ ?_; (focus ((repeat' constructor); done)); conv => whnf))
  rw [show l.any p = decide ((0 : Int) ≤ match l.findIdx? p with | some i => i | none => -1) from any_idx p l]
  rfl
theorem any_ok {l : List Ent} : l.any (fun e => decide (¬ entOk e)) = !decide (∀ e ∈ l, entOk e) := by
  by_cases h : ∀ e ∈ l, entOk e
  · rw [decide_eq_true h]; simpa using h
  · rw [decide_eq_false h]; simpa using h
theorem c_odd_arena (l : List Ent) (h : ∀ e ∈ l, e.bd) (hl : l.length < 2 ^ 62) : Fc Try.prog n_slices_ContainsFunc_LEntry_Entry [ents l, .clo (.func n_arena_Check_1) [] []] (sb (!decide (∀ e ∈ l, entOk e))) := by
  rw [← any_ok]; exact c_slices_ContainsFunc_Entry _ _ l (fun e he => c_arena_Check_1 e (h e he)) hl
theorem c_odd_frame (l : List Ent) (h : ∀ e ∈ l, e.bd) (hl : l.length < 2 ^ 62) : Fc Try.prog n_slices_ContainsFunc_LEntry_Entry [ents l, .clo (.func n_frame_Check_1) [] []] (sb (!decide (∀ e ∈ l, entOk e))) := by
  rw [← any_ok]; exact c_slices_ContainsFunc_Entry _ _ l (fun e he => c_frame_Check_1 e (h e he)) hl
def entLt (a b : Ent) : Bool := if a.val.kind ≠ b.val.kind then decide (a.val.kind < b.val.kind) else Op.bytesLess a.key.toList b.key.toList
theorem c_entry_Less (a b : Ent) : Fc Try.prog n_entry_Less [a.sv, b.sv] (sb (entLt a b)) := by
  refine Fc.of_body tabOk q_entry_Less (by kernel_rfl) ((blwL_cons (blw_ent 0 a) (blwL_one (blw_ent 0 b)))) (rfl) ?_
  conv => whnf
  repeat' (first
    | (refine bltG (by first | omega | (simp only [List.length_map] at *; omega)) ?_; conv => whnf)
    | (refine ndG (by assumption) ?_; conv => whnf)
    | (refine mulG ?_; conv => whnf)
    | (refine And.intro rfl ?_; conv => whnf)
    | (refine dsT (by assumption) ?_; conv => whnf)
    | (refine dsF (by assumption) ?_; conv => whnf)
    | (refine nsT (by assumption) ?_; conv => whnf)
    | (refine nsF (by assumption) ?_; conv => whnf)
    | (refine bsT (by assumption) ?_; conv => whnf)
    | (refine bsF (by assumption) ?_; conv => whnf)
    | (refine dsp ?_ ?_ <;> intro _ <;> conv => whnf)
    | (refine nsp ?_ ?_ <;> intro _ <;> conv => whnf)
    | (refine cnd_true (by assumption) ?_; conv => whnf)
    | (refine cnd_false (by assumption) ?_; conv => whnf)
    | (refine cnd_split ?_ ?_ <;> intro _ <;> conv => whnf)
    | (refine Cd.par tabOk (by kernel_rfl) (by kernel_rfl) ?_; conv => whnf))
  · unfold entLt; rw [if_pos ‹_›]; rfl
  · unfold entLt; rw [if_neg (by simpa using ‹_›)]; rfl
end Go.Proofs.Ytmjpidjdbofdjaa

