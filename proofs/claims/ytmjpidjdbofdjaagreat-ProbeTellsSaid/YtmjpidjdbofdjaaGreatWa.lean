import Derived.Test.YtmjpidjdbofdjaaGreatVx
import Derived.Test.YtmjpidjdbofdjaaGreatYZ
/- Contracts: arena.Join. -/
set_option linter.unusedVariables false
set_option linter.unusedSimpArgs false
set_option maxRecDepth 100000
set_option maxHeartbeats 1600000
namespace Go.Proofs.YtmjpidjdbofdjaaGreat
open Go Go.Sy
theorem findZ_eq (l : List Ent) (e : Ent) : findZ l e.val.kind e.key = match findE l e with | some i => (i : Int) | none => -1 := by
  have : isN e.val.kind e.key = fun x => decide (named x e) := by
    funext x
    unfold isN named
    exact decide_eq_decide.2 Iff.rfl
  unfold findZ findE
  rw [this]
  cases List.findIdx? (fun x => decide (named x e)) l <;> rfl
theorem en0 {p : Prop} [Decidable p] (h : p) : en p = iv 0 := by unfold en; rw [if_pos h]
theorem en2 {p : Prop} [Decidable p] (h : ¬ p) : en p = iv 2 := by unfold en; rw [if_neg h]
theorem blw_res (a : Ar) (b : Bool) (n : Int) : blw 0 (SV.tup [a.sv, sb b, iv n]) = true := by simp [blw, blwL, blw_ar, blw_iv, sb]
theorem c_Join0 (a : Ar) (e : Ent) (ha : a.bd) (he : e.bd) (h : ¬ (arOk a ∧ entOk e)) : Fc Tryz.prog n_arena_Join [a.sv, e.sv] (.tup [a.sv, sb false, iv 2]) := by
  have h1 := c_arena_Check a ha
  have h2 := c_entry_Check e he
  by_cases hk : arOk a
  · rw [en0 hk] at h1
    rw [en2 (fun hh => h ⟨hk, hh⟩)] at h2
    refine Fc.of_body tabOk q_arena_Join (by kernel_rfl) ((blwL_cons (blw_ar 0 a) (blwL_one (blw_ent 0 e)))) ((blw_res _ _ _)) ?_
    conv => whnf
    repeat' (first
      | (refine bltG (by first | omega | (simp only [List.length_map] at *; omega)) ?_; conv => whnf)
      | (refine ndG (by assumption) ?_; conv => whnf)
      | (refine mulG ?_; conv => whnf)
      | (refine And.intro rfl ?_; conv => whnf)
      | (refine dsT (by assumption) ?_; conv => whnf)
      | (refine dsF (by assumption) ?_; conv => whnf)
      | (refine nsT (by assumption) ?_; conv => whnf)
      | (refine nsF (by assumption) ?_; conv => whnf)
      | (refine bsT (by assumption) ?_; conv => whnf)
      | (refine bsF (by assumption) ?_; conv => whnf)
      | (refine dsp ?_ ?_ <;> intro _ <;> conv => whnf)
      | (refine nsp ?_ ?_ <;> intro _ <;> conv => whnf)
      | (refine cnd_true (by assumption) ?_; conv => whnf)
      | (refine cnd_false (by assumption) ?_; conv => whnf)
      | (refine cnd_split ?_ ?_ <;> intro _ <;> conv => whnf)
      | (refine Cd.par tabOk (by kernel_rfl) (by kernel_rfl) ?_; conv => whnf)
      | (refine Tr.of_body tabOk q_arena_changing_put (by kernel_rfl) ?_; conv => whnf)
      | (refine Fc.use (h1) ?_ ?_; (focus ((repeat' constructor); done)); conv => whnf)
      | (refine CallQ.of (h1) ?_ ?_; (focus ((repeat' constructor); done)); conv => whnf)
      | (refine Fc.use (h2) ?_ ?_; (focus ((repeat' constructor); done)); conv => whnf)
      | (refine CallQ.of (h2) ?_ ?_; (focus ((repeat' constructor); done)); conv => whnf)
      | rfl
      | exact True.intro
      | (refine And.intro ?_ ?_ <;> conv => whnf))
  · rw [en2 hk] at h1
    refine Fc.of_body tabOk q_arena_Join (by kernel_rfl) ((blwL_cons (blw_ar 0 a) (blwL_one (blw_ent 0 e)))) ((blw_res _ _ _)) ?_
    conv => whnf
    repeat' (first
      | (refine bltG (by first | omega | (simp only [List.length_map] at *; omega)) ?_; conv => whnf)
      | (refine ndG (by assumption) ?_; conv => whnf)
      | (refine mulG ?_; conv => whnf)
      | (refine And.intro rfl ?_; conv => whnf)
      | (refine dsT (by assumption) ?_; conv => whnf)
      | (refine dsF (by assumption) ?_; conv => whnf)
      | (refine nsT (by assumption) ?_; conv => whnf)
      | (refine nsF (by assumption) ?_; conv => whnf)
      | (refine bsT (by assumption) ?_; conv => whnf)
      | (refine bsF (by assumption) ?_; conv => whnf)
      | (refine dsp ?_ ?_ <;> intro _ <;> conv => whnf)
      | (refine nsp ?_ ?_ <;> intro _ <;> conv => whnf)
      | (refine cnd_true (by assumption) ?_; conv => whnf)
      | (refine cnd_false (by assumption) ?_; conv => whnf)
      | (refine cnd_split ?_ ?_ <;> intro _ <;> conv => whnf)
      | (refine Cd.par tabOk (by kernel_rfl) (by kernel_rfl) ?_; conv => whnf)
      | (refine Tr.of_body tabOk q_arena_changing_put (by kernel_rfl) ?_; conv => whnf)
      | (refine Fc.use (h1) ?_ ?_; (focus ((repeat' constructor); done)); conv => whnf)
      | (refine CallQ.of (h1) ?_ ?_; (focus ((repeat' constructor); done)); conv => whnf)
      | (refine Fc.use (h2) ?_ ?_; (focus ((repeat' constructor); done)); conv => whnf)
      | (refine CallQ.of (h2) ?_ ?_; (focus ((repeat' constructor); done)); conv => whnf)
      | rfl
      | exact True.intro
      | (refine And.intro ?_ ?_ <;> conv => whnf))
theorem c_Join4 (a : Ar) (e : Ent) (hk : arOk a) (he : entOk e) (ha : a.bd) (hf : findE a.slots e = none) (hr : (a.slots.length : Int) = a.cap) : Fc Tryz.prog n_arena_Join [a.sv, e.sv] (.tup [a.sv, sb false, iv 4]) := by
  have h1 := c_arena_Check a ha
  have h2 := c_entry_Check e he.bd
  have h3 := c_arena_Find1 a ha hk e.val.kind e.key
  rw [findZ_eq, hf] at h3
  replace h3 : Fc Tryz.prog n_arena_Find [a.sv, iv e.val.kind, ss e.key] (iv (-1)) := h3
  rw [en0 hk] at h1
  rw [en0 he] at h2
  have hr' : ((a.slots.map Ent.sv).length : Int) = a.cap := by rw [List.length_map]; exact hr
  refine Fc.of_body tabOk q_arena_Join (by kernel_rfl) ((blwL_cons (blw_ar 0 a) (blwL_one (blw_ent 0 e)))) ((blw_res _ _ _)) ?_
  conv => whnf
  repeat' (first
    | (refine bltG (by first | omega | (simp only [List.length_map] at *; omega)) ?_; conv => whnf)
    | (refine ndG (by assumption) ?_; conv => whnf)
    | (refine mulG ?_; conv => whnf)
    | (refine And.intro rfl ?_; conv => whnf)
    | (refine dsT (by assumption) ?_; conv => whnf)
    | (refine dsF (by assumption) ?_; conv => whnf)
    | (refine nsT (by assumption) ?_; conv => whnf)
    | (refine nsF (by assumption) ?_; conv => whnf)
    | (refine bsT (by assumption) ?_; conv => whnf)
    | (refine bsF (by assumption) ?_; conv => whnf)
    | (refine dsp ?_ ?_ <;> intro _ <;> conv => whnf)
    | (refine nsp ?_ ?_ <;> intro _ <;> conv => whnf)
    | (refine cnd_true (by assumption) ?_; conv => whnf)
    | (refine cnd_false (by assumption) ?_; conv => whnf)
    | (refine cnd_split ?_ ?_ <;> intro _ <;> conv => whnf)
    | (refine Cd.par tabOk (by kernel_rfl) (by kernel_rfl) ?_; conv => whnf)
    | (refine Tr.of_body tabOk q_arena_changing_put (by kernel_rfl) ?_; conv => whnf)
    | (refine Fc.use (h1) ?_ ?_; (focus ((repeat' constructor); done)); conv => whnf)
    | (refine CallQ.of (h1) ?_ ?_; (focus ((repeat' constructor); done)); conv => whnf)
    | (refine Fc.use (h2) ?_ ?_; (focus ((repeat' constructor); done)); conv => whnf)
    | (refine CallQ.of (h2) ?_ ?_; (focus ((repeat' constructor); done)); conv => whnf)
    | (refine Fc.use (h3) ?_ ?_; (focus ((repeat' constructor); done)); conv => whnf)
    | (refine CallQ.of (h3) ?_ ?_; (focus ((repeat' constructor); done)); conv => whnf)
    | rfl
    | exact True.intro
    | (refine And.intro ?_ ?_ <;> conv => whnf))
theorem c_JoinN (a : Ar) (e : Ent) (hk : arOk a) (he : entOk e) (ha : a.bd) (hf : findE a.slots e = none) (hr : ¬ (a.slots.length : Int) = a.cap) : Fc Tryz.prog n_arena_Join [a.sv, e.sv] (.tup [(putE a e).sv, sb true, iv 0]) := by
  have hlen : a.slots.length ≤ 8 := by have h1 := hk.2.1; have h2 := hk.2.2.1; omega
  have h1 := c_arena_Check a ha
  have h2 := c_entry_Check e he.bd
  have h3 := c_arena_Find1 a ha hk e.val.kind e.key
  rw [findZ_eq, hf] at h3
  replace h3 : Fc Tryz.prog n_arena_Find [a.sv, iv e.val.kind, ss e.key] (iv (-1)) := h3
  rw [en0 hk] at h1
  rw [en0 he] at h2
  have hr' : ¬ ((a.slots.map Ent.sv).length : Int) = a.cap := by rw [List.length_map]; exact hr
  have h4 := c_entry_Join e e he he (named.refl e)
  rw [show putE a e = ⟨a.cap, a.slots ++ [joinE e e], (idx (a.slots ++ [joinE e e])).map fun k : Nat => (k : Int)⟩ by unfold putE; rw [hf]]
  have h5 := c_arena_index (a.slots ++ [joinE e e]) (by simp; omega)
  rw [nats_ints] at h5
  generalize hj : joinE e e = j at *
  obtain ⟨cap, slots, index⟩ := a
  dsimp only at *
  refine Fc.of_body tabOk q_arena_Join (by kernel_rfl) ((blwL_cons (blw_ar 0 _) (blwL_one (blw_ent 0 e)))) ((blw_res _ _ _)) ?_
  conv => whnf
  repeat' (first
    | (refine bltG (by first | omega | (simp only [List.length_map] at *; omega)) ?_; conv => whnf)
    | (refine ndG (by assumption) ?_; conv => whnf)
    | (refine mulG ?_; conv => whnf)
    | (refine And.intro rfl ?_; conv => whnf)
    | (refine dsT (by assumption) ?_; conv => whnf)
    | (refine dsF (by assumption) ?_; conv => whnf)
    | (refine nsT (by assumption) ?_; conv => whnf)
    | (refine nsF (by assumption) ?_; conv => whnf)
    | (refine bsT (by assumption) ?_; conv => whnf)
    | (refine bsF (by assumption) ?_; conv => whnf)
    | (refine dsp ?_ ?_ <;> intro _ <;> conv => whnf)
    | (refine nsp ?_ ?_ <;> intro _ <;> conv => whnf)
    | (refine cnd_true (by assumption) ?_; conv => whnf)
    | (refine cnd_false (by assumption) ?_; conv => whnf)
    | (refine cnd_split ?_ ?_ <;> intro _ <;> conv => whnf)
    | (refine Cd.par tabOk (by kernel_rfl) (by kernel_rfl) ?_; conv => whnf)
    | (refine Tr.of_body tabOk q_arena_changing_put (by kernel_rfl) ?_; conv => whnf)
    | (refine Fc.use (h1) ?_ ?_; (focus ((repeat' constructor); done)); conv => whnf)
    | (refine CallQ.of (h1) ?_ ?_; (focus ((repeat' constructor); done)); conv => whnf)
    | (refine Fc.use (h2) ?_ ?_; (focus ((repeat' constructor); done)); conv => whnf)
    | (refine CallQ.of (h2) ?_ ?_; (focus ((repeat' constructor); done)); conv => whnf)
    | (refine Fc.use (h3) ?_ ?_; (focus ((repeat' constructor); done)); conv => whnf)
    | (refine CallQ.of (h3) ?_ ?_; (focus ((repeat' constructor); done)); conv => whnf)
    | rfl
    | exact True.intro
    | (refine And.intro ?_ ?_ <;> conv => whnf)
    | (refine Tr.of_body tabOk q_slices_Clone_LEntry_Entry (by kernel_rfl) ?_; conv => whnf))
  intro b hb
  have hmx : 4096 ≤ maxLen := by decide
  have hl1 : ∀ s : SV, [s].length = 1 := fun _ => rfl
  cases slots with
  | nil =>
    cases b
    · conv => whnf
      refine And.intro rfl ?_
      conv => whnf
      refine And.intro ⟨Nat.zero_le _, Nat.zero_le _⟩ ?_
      conv => whnf
      repeat' (first
        | (refine bltG (by first | omega | (simp only [List.length_map] at *; omega)) ?_; conv => whnf)
        | (refine ndG (by assumption) ?_; conv => whnf)
        | (refine mulG ?_; conv => whnf)
        | (refine And.intro rfl ?_; conv => whnf)
        | (refine dsT (by assumption) ?_; conv => whnf)
        | (refine dsF (by assumption) ?_; conv => whnf)
        | (refine nsT (by assumption) ?_; conv => whnf)
        | (refine nsF (by assumption) ?_; conv => whnf)
        | (refine bsT (by assumption) ?_; conv => whnf)
        | (refine bsF (by assumption) ?_; conv => whnf)
        | (refine dsp ?_ ?_ <;> intro _ <;> conv => whnf)
        | (refine nsp ?_ ?_ <;> intro _ <;> conv => whnf)
        | (refine cnd_true (by assumption) ?_; conv => whnf)
        | (refine cnd_false (by assumption) ?_; conv => whnf)
        | (refine cnd_split ?_ ?_ <;> intro _ <;> conv => whnf)
        | (refine Cd.par tabOk (by kernel_rfl) (by kernel_rfl) ?_; conv => whnf)
        | (refine Fc.use (h4) ?_ ?_; (focus ((repeat' constructor); done)); conv => whnf)
        | (refine CallQ.of (h4) ?_ ?_; (focus ((repeat' constructor); done)); conv => whnf))
      refine And.intro ⟨?_, ?_⟩ fun A2 c2 hv2 => ?_
      · simp only [hl1]; omega
      · simp only [hl1]; omega
      conv => whnf
      refine Fc.useP h5 ?_ ?_
      · (repeat' constructor)
      conv => whnf
      repeat' (first
        | (refine bltG (by first | omega | (simp only [List.length_map] at *; omega)) ?_; conv => whnf)
        | (refine ndG (by assumption) ?_; conv => whnf)
        | (refine mulG ?_; conv => whnf)
        | (refine And.intro rfl ?_; conv => whnf)
        | (refine dsT (by assumption) ?_; conv => whnf)
        | (refine dsF (by assumption) ?_; conv => whnf)
        | (refine nsT (by assumption) ?_; conv => whnf)
        | (refine nsF (by assumption) ?_; conv => whnf)
        | (refine bsT (by assumption) ?_; conv => whnf)
        | (refine bsF (by assumption) ?_; conv => whnf)
        | (refine dsp ?_ ?_ <;> intro _ <;> conv => whnf)
        | (refine nsp ?_ ?_ <;> intro _ <;> conv => whnf)
        | (refine cnd_true (by assumption) ?_; conv => whnf)
        | (refine cnd_false (by assumption) ?_; conv => whnf)
        | (refine cnd_split ?_ ?_ <;> intro _ <;> conv => whnf)
        | (refine Cd.par tabOk (by kernel_rfl) (by kernel_rfl) ?_; conv => whnf)
        | rfl
        | exact True.intro
        | (refine And.intro ?_ ?_ <;> conv => whnf))
    · conv => whnf
      repeat' (first
        | (refine bltG (by first | omega | (simp only [List.length_map] at *; omega)) ?_; conv => whnf)
        | (refine ndG (by assumption) ?_; conv => whnf)
        | (refine mulG ?_; conv => whnf)
        | (refine And.intro rfl ?_; conv => whnf)
        | (refine dsT (by assumption) ?_; conv => whnf)
        | (refine dsF (by assumption) ?_; conv => whnf)
        | (refine nsT (by assumption) ?_; conv => whnf)
        | (refine nsF (by assumption) ?_; conv => whnf)
        | (refine bsT (by assumption) ?_; conv => whnf)
        | (refine bsF (by assumption) ?_; conv => whnf)
        | (refine dsp ?_ ?_ <;> intro _ <;> conv => whnf)
        | (refine nsp ?_ ?_ <;> intro _ <;> conv => whnf)
        | (refine cnd_true (by assumption) ?_; conv => whnf)
        | (refine cnd_false (by assumption) ?_; conv => whnf)
        | (refine cnd_split ?_ ?_ <;> intro _ <;> conv => whnf)
        | (refine Cd.par tabOk (by kernel_rfl) (by kernel_rfl) ?_; conv => whnf)
        | (refine Fc.use (h4) ?_ ?_; (focus ((repeat' constructor); done)); conv => whnf)
        | (refine CallQ.of (h4) ?_ ?_; (focus ((repeat' constructor); done)); conv => whnf))
      refine And.intro ⟨?_, ?_⟩ fun A2 c2 hv2 => ?_
      · simp only [hl1]; omega
      · simp only [hl1]; omega
      conv => whnf
      refine Fc.useP h5 ?_ ?_
      · (repeat' constructor)
      conv => whnf
      repeat' (first
        | (refine bltG (by first | omega | (simp only [List.length_map] at *; omega)) ?_; conv => whnf)
        | (refine ndG (by assumption) ?_; conv => whnf)
        | (refine mulG ?_; conv => whnf)
        | (refine And.intro rfl ?_; conv => whnf)
        | (refine dsT (by assumption) ?_; conv => whnf)
        | (refine dsF (by assumption) ?_; conv => whnf)
        | (refine nsT (by assumption) ?_; conv => whnf)
        | (refine nsF (by assumption) ?_; conv => whnf)
        | (refine bsT (by assumption) ?_; conv => whnf)
        | (refine bsF (by assumption) ?_; conv => whnf)
        | (refine dsp ?_ ?_ <;> intro _ <;> conv => whnf)
        | (refine nsp ?_ ?_ <;> intro _ <;> conv => whnf)
        | (refine cnd_true (by assumption) ?_; conv => whnf)
        | (refine cnd_false (by assumption) ?_; conv => whnf)
        | (refine cnd_split ?_ ?_ <;> intro _ <;> conv => whnf)
        | (refine Cd.par tabOk (by kernel_rfl) (by kernel_rfl) ?_; conv => whnf)
        | rfl
        | exact True.intro
        | (refine And.intro ?_ ?_ <;> conv => whnf))
  | cons x r =>
    obtain rfl : b = false := by cases b; rfl; exact absurd (hb rfl) (by simp)
    simp only [List.length_cons] at hlen
    conv => whnf
    refine And.intro rfl ?_
    conv => whnf
    refine And.intro ⟨?_, ?_⟩ fun A' c' hv => ?_
    · simp only [List.length_map, List.length_cons]; omega
    · simp only [List.length_map, List.length_cons]; omega
    conv => whnf
    repeat' (first
      | (refine bltG (by first | omega | (simp only [List.length_map] at *; omega)) ?_; conv => whnf)
      | (refine ndG (by assumption) ?_; conv => whnf)
      | (refine mulG ?_; conv => whnf)
      | (refine And.intro rfl ?_; conv => whnf)
      | (refine dsT (by assumption) ?_; conv => whnf)
      | (refine dsF (by assumption) ?_; conv => whnf)
      | (refine nsT (by assumption) ?_; conv => whnf)
      | (refine nsF (by assumption) ?_; conv => whnf)
      | (refine bsT (by assumption) ?_; conv => whnf)
      | (refine bsF (by assumption) ?_; conv => whnf)
      | (refine dsp ?_ ?_ <;> intro _ <;> conv => whnf)
      | (refine nsp ?_ ?_ <;> intro _ <;> conv => whnf)
      | (refine cnd_true (by assumption) ?_; conv => whnf)
      | (refine cnd_false (by assumption) ?_; conv => whnf)
      | (refine cnd_split ?_ ?_ <;> intro _ <;> conv => whnf)
      | (refine Cd.par tabOk (by kernel_rfl) (by kernel_rfl) ?_; conv => whnf)
      | (refine Fc.use (h4) ?_ ?_; (focus ((repeat' constructor); done)); conv => whnf)
      | (refine CallQ.of (h4) ?_ ?_; (focus ((repeat' constructor); done)); conv => whnf))
    refine And.intro ⟨rfl, rfl, rfl, rfl, rfl, rfl, ?_, ?_⟩ fun A2 c2 hv2 => ?_
    · simp only [List.length_map, List.length_cons, List.length_nil]; omega
    · simp only [List.length_map, List.length_cons, List.length_nil]; omega
    rw [lf_eq]
    conv => whnf
    refine Fc.useP h5 ?_ ?_
    · (repeat' constructor); simp [List.map_append]; rfl
    conv => whnf
    repeat' (first
      | (refine bltG (by first | omega | (simp only [List.length_map] at *; omega)) ?_; conv => whnf)
      | (refine ndG (by assumption) ?_; conv => whnf)
      | (refine mulG ?_; conv => whnf)
      | (refine And.intro rfl ?_; conv => whnf)
      | (refine dsT (by assumption) ?_; conv => whnf)
      | (refine dsF (by assumption) ?_; conv => whnf)
      | (refine nsT (by assumption) ?_; conv => whnf)
      | (refine nsF (by assumption) ?_; conv => whnf)
      | (refine bsT (by assumption) ?_; conv => whnf)
      | (refine bsF (by assumption) ?_; conv => whnf)
      | (refine dsp ?_ ?_ <;> intro _ <;> conv => whnf)
      | (refine nsp ?_ ?_ <;> intro _ <;> conv => whnf)
      | (refine cnd_true (by assumption) ?_; conv => whnf)
      | (refine cnd_false (by assumption) ?_; conv => whnf)
      | (refine cnd_split ?_ ?_ <;> intro _ <;> conv => whnf)
      | (refine Cd.par tabOk (by kernel_rfl) (by kernel_rfl) ?_; conv => whnf)
      | rfl
      | exact True.intro
      | (refine And.intro ?_ ?_ <;> conv => whnf))
    show (x :: r).map Ent.sv ++ [j.sv] = (x :: r ++ [j]).map Ent.sv
    rw [List.map_append]; rfl
end Go.Proofs.YtmjpidjdbofdjaaGreat

