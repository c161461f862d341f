import Derived.Test.YtmjpidjdbofdjaaGreatVh
/- Contracts: arena.Check; the laws' own comparisons. -/
set_option linter.unusedVariables false
set_option linter.unusedSimpArgs false
/- Contracts: arena.Check. -/
set_option maxRecDepth 100000
namespace Go.Proofs.YtmjpidjdbofdjaaGreat
open Go Go.Sy
theorem idx_inR (l : List Ent) : inR l.length (idx l) := iso_inR _ _ _ (Nat.le_refl _)
def srtd (l : List Ent) : Prop := ∀ k, k < l.length - 1 → ltI l ((idx l).getD k 0) ((idx l).getD (k + 1) 0) = true
instance (l : List Ent) : Decidable (srtd l) := by unfold srtd; infer_instance
def Ar.bd (a : Ar) : Prop := (∀ e ∈ a.slots, e.bd) ∧ a.slots.length < 2 ^ 40 ∧ a.index.length < 2 ^ 40
def arOk (a : Ar) : Prop := 1 ≤ a.cap ∧ a.cap ≤ 8 ∧ a.slots.length ≤ a.cap ∧ (∀ e ∈ a.slots, entOk e) ∧ srtd a.slots ∧ (idx a.slots).map (fun k : Nat => (k : Int)) = a.index
instance (a : Ar) : Decidable (arOk a) := by unfold arOk; infer_instance
theorem c_arena_Check (a : Ar) (ha : a.bd) : Fc Tryz.prog n_arena_Check [a.sv] (en (arOk a)) := by
  obtain ⟨hb, hl1, hl2⟩ := ha
  have hN : (a.slots.map Ent.sv).length = a.slots.length := List.length_map ..
  refine Fc.of_body tabOk q_arena_Check (by kernel_rfl) ((blwL_one (blw_ar 0 a))) (rfl) ?_
  conv => whnf
  by_cases hc : 1 ≤ a.cap ∧ a.cap ≤ 8 ∧ a.slots.length ≤ a.cap ∧ (∀ e ∈ a.slots, entOk e)
  · obtain ⟨c1, c2, c3, c4⟩ := hc
    have hix := c_arena_index a.slots (by omega)
    rw [nats_ints] at hix
    repeat' (first
      | (refine bltG (by first | omega | (simp only [List.length_map] at *; omega)) ?_; conv => whnf)
      | (refine ndG (by assumption) ?_; conv => whnf)
      | (refine mulG ?_; conv => whnf)
      | (refine And.intro rfl ?_; conv => whnf)
      | (refine dsT (by assumption) ?_; conv => whnf)
      | (refine dsF (by assumption) ?_; conv => whnf)
      | (refine nsT (by assumption) ?_; conv => whnf)
      | (refine nsF (by assumption) ?_; conv => whnf)
      | (refine bsT (by assumption) ?_; conv => whnf)
      | (refine bsF (by assumption) ?_; conv => whnf)
      | (refine dsp ?_ ?_ <;> intro _ <;> conv => whnf)
      | (refine nsp ?_ ?_ <;> intro _ <;> conv => whnf)
      | (refine cnd_true (by assumption) ?_; conv => whnf)
      | (refine cnd_false (by assumption) ?_; conv => whnf)
      | (refine cnd_split ?_ ?_ <;> intro _ <;> conv => whnf)
      | (refine Cd.par tabOk (by kernel_rfl) (by kernel_rfl) ?_; conv => whnf)
      | (refine Fc.use (c_odd_arena a.slots hb (by omega)) ?_ ?_; (focus ((repeat' constructor); done)); conv => whnf)
      | (refine CallQ.of (c_odd_arena a.slots hb (by omega)) ?_ ?_; (focus ((repeat' constructor); done)); conv => whnf)
      | (refine Fc.use (hix) ?_ ?_; (focus ((repeat' constructor); done)); conv => whnf)
      | (refine CallQ.of (hix) ?_ ?_; (focus ((repeat' constructor); done)); conv => whnf))
    · exfalso; omega
    · exfalso; omega
    · exfalso; rw [hN] at *; omega
    have hM : ((idx a.slots).map (fun k : Nat => (k : Int))).length = a.slots.length := by rw [List.length_map]; exact (idx_inR _).1
    have hK : (((idx a.slots).map (fun k : Nat => (k : Int))).map iv).length = a.slots.length := by rw [List.length_map]; exact hM
    refine loopP tabOk (fun i : Nat => 1 ≤ i ∧ (i ≤ a.slots.length ∨ i = 1) ∧ ∀ k, k + 1 < i → ltI a.slots ((idx a.slots).getD k 0) ((idx a.slots).getD (k + 1) 0) = true)
      (fun i => ⟨[(5, iv i), (4, ints ((idx a.slots).map (fun k : Nat => (k : Int)))), (1, .loc 0 0)], []⟩) (fun _ => ⟨1, [.c [iv a.cap, ents a.slots, ints a.index]], []⟩) (fun i => a.slots.length - i) 1 ⟨by omega, by omega, fun k hk => by omega⟩ (by repeat' constructor) (fun _ => rfl) ?_
    rintro i ⟨hi1, hi2, hs⟩
    obtain ⟨j, rfl⟩ : ∃ j, i = j + 1 := ⟨i - 1, by omega⟩
    have hw : IntKind.wrap .i64 (((j + 1 : Nat) : Int) - 1) = (j : Nat) := by rw [wrap_i64] <;> omega
    conv => whnf
    refine dsp ?_ ?_ <;> intro hlt <;> conv => whnf
    · rw [hK] at hlt
      obtain ⟨x, hx, hxl⟩ := (idx_inR a.slots).at (show j < a.slots.length by omega)
      obtain ⟨y, hy, hyl⟩ := (idx_inR a.slots).at (show j + 1 < a.slots.length by omega)
      have hx' : ((idx a.slots).map (fun k : Nat => (k : Int)))[j]? = some (x : Int) := by simp [hx]
      have hy' : ((idx a.slots).map (fun k : Nat => (k : Int)))[j + 1]? = some (y : Int) := by simp [hy]
      obtain ⟨ex, hex⟩ : ∃ e, a.slots[x]? = some e := ⟨_, List.getElem?_eq_getElem hxl⟩
      obtain ⟨ey, hey⟩ : ∃ e, a.slots[y]? = some e := ⟨_, List.getElem?_eq_getElem hyl⟩
      have hxy : ltI a.slots ((idx a.slots).getD j 0) ((idx a.slots).getD (j + 1) 0) = entLt ex ey := by
        simp only [List.getD, hx, hy, Option.getD_some]; exact ltI_at hex hey
      repeat' (first
        | (refine bltG (by first | omega | (simp only [List.length_map] at *; omega)) ?_; conv => whnf)
        | (refine ndG (by assumption) ?_; conv => whnf)
        | (refine mulG ?_; conv => whnf)
        | (refine And.intro rfl ?_; conv => whnf)
        | (refine dsT (by assumption) ?_; conv => whnf)
        | (refine dsF (by assumption) ?_; conv => whnf)
        | (refine nsT (by assumption) ?_; conv => whnf)
        | (refine nsF (by assumption) ?_; conv => whnf)
        | (refine bsT (by assumption) ?_; conv => whnf)
        | (refine bsF (by assumption) ?_; conv => whnf)
        | (refine dsp ?_ ?_ <;> intro _ <;> conv => whnf)
        | (refine nsp ?_ ?_ <;> intro _ <;> conv => whnf)
        | (refine cnd_true (by assumption) ?_; conv => whnf)
        | (refine cnd_false (by assumption) ?_; conv => whnf)
        | (refine cnd_split ?_ ?_ <;> intro _ <;> conv => whnf)
        | (refine Cd.par tabOk (by kernel_rfl) (by kernel_rfl) ?_; conv => whnf)
        | (rw [hw]; conv => whnf)
        | (refine Fc.use (c_entry_Less ex ey) ?_ ?_; (focus ((repeat' constructor); done)); conv => whnf)
        | (refine CallQ.of (c_entry_Less ex ey) ?_ ?_; (focus ((repeat' constructor); done)); conv => whnf))
      · exact enF (fun h => by
          have h1 := h.2.2.2.2.1 j (by omega)
          rw [hxy] at h1
          have h2 : (!entLt ex ey) = true := by assumption
          rw [h1] at h2; cases h2)
      · have hs' : ∀ k, k + 1 < j + 1 + 1 → ltI a.slots ((idx a.slots).getD k 0) ((idx a.slots).getD (k + 1) 0) = true := fun k hk => by
          by_cases h : k + 1 < j + 1
          · exact hs k h
          · obtain rfl : k = j := by omega
            rw [hxy]
            have h2 : (!entLt ex ey) = false := by assumption
            simpa using h2
        refine ⟨j + 1 + 1, ⟨by omega, by omega, hs'⟩, ?_, ?_⟩
        · first | omega | (simp only [List.length_map] at *; omega)
        · (repeat' constructor) <;> first | (refine ivW ?_ ?_ ?_ <;> first | omega | (dsimp only; omega))
    · repeat' (first
        | (refine bltG (by first | omega | (simp only [List.length_map] at *; omega)) ?_; conv => whnf)
        | (refine ndG (by assumption) ?_; conv => whnf)
        | (refine mulG ?_; conv => whnf)
        | (refine And.intro rfl ?_; conv => whnf)
        | (refine dsT (by assumption) ?_; conv => whnf)
        | (refine dsF (by assumption) ?_; conv => whnf)
        | (refine nsT (by assumption) ?_; conv => whnf)
        | (refine nsF (by assumption) ?_; conv => whnf)
        | (refine bsT (by assumption) ?_; conv => whnf)
        | (refine bsF (by assumption) ?_; conv => whnf)
        | (refine dsp ?_ ?_ <;> intro _ <;> conv => whnf)
        | (refine nsp ?_ ?_ <;> intro _ <;> conv => whnf)
        | (refine cnd_true (by assumption) ?_; conv => whnf)
        | (refine cnd_false (by assumption) ?_; conv => whnf)
        | (refine cnd_split ?_ ?_ <;> intro _ <;> conv => whnf)
        | (refine Cd.par tabOk (by kernel_rfl) (by kernel_rfl) ?_; conv => whnf)
        | (refine Fc.use (c_slices_Equal_int ((idx a.slots).map (fun k : Nat => (k : Int))) a.index (by omega)) ?_ ?_; (focus ((repeat' constructor); done)); conv => whnf)
        | (refine CallQ.of (c_slices_Equal_int ((idx a.slots).map (fun k : Nat => (k : Int))) a.index (by omega)) ?_ ?_; (focus ((repeat' constructor); done)); conv => whnf))
      · exact enF (fun h => absurd h.2.2.2.2.2 (by assumption))
      · rw [hK] at hlt
        exact enT ⟨c1, c2, c3, c4, fun k hk => hs k (by omega), by assumption⟩
  · repeat' (first
      | (refine bltG (by first | omega | (simp only [List.length_map] at *; omega)) ?_; conv => whnf)
      | (refine ndG (by assumption) ?_; conv => whnf)
      | (refine mulG ?_; conv => whnf)
      | (refine And.intro rfl ?_; conv => whnf)
      | (refine dsT (by assumption) ?_; conv => whnf)
      | (refine dsF (by assumption) ?_; conv => whnf)
      | (refine nsT (by assumption) ?_; conv => whnf)
      | (refine nsF (by assumption) ?_; conv => whnf)
      | (refine bsT (by assumption) ?_; conv => whnf)
      | (refine bsF (by assumption) ?_; conv => whnf)
      | (refine dsp ?_ ?_ <;> intro _ <;> conv => whnf)
      | (refine nsp ?_ ?_ <;> intro _ <;> conv => whnf)
      | (refine cnd_true (by assumption) ?_; conv => whnf)
      | (refine cnd_false (by assumption) ?_; conv => whnf)
      | (refine cnd_split ?_ ?_ <;> intro _ <;> conv => whnf)
      | (refine Cd.par tabOk (by kernel_rfl) (by kernel_rfl) ?_; conv => whnf)
      | (refine Fc.use (c_odd_arena a.slots hb (by omega)) ?_ ?_; (focus ((repeat' constructor); done)); conv => whnf)
      | (refine CallQ.of (c_odd_arena a.slots hb (by omega)) ?_ ?_; (focus ((repeat' constructor); done)); conv => whnf))
    · exact enF (fun h => hc ⟨h.1, h.2.1, h.2.2.1, h.2.2.2.1⟩)
    · exact enF (fun h => hc ⟨h.1, h.2.1, h.2.2.1, h.2.2.2.1⟩)
    · exact enF (fun h => hc ⟨h.1, h.2.1, h.2.2.1, h.2.2.2.1⟩)
    · exact enF (fun h => hc ⟨h.1, h.2.1, h.2.2.1, h.2.2.2.1⟩)
    · exfalso; rw [hN] at *; exact hc ⟨by omega, by omega, by omega, by assumption⟩
end Go.Proofs.YtmjpidjdbofdjaaGreat

/- Contracts: the laws' own comparisons; few. -/
set_option maxRecDepth 100000
namespace Go.Proofs.YtmjpidjdbofdjaaGreat
open Go Go.Sy
theorem c_ref01_Ints (a b : List Int) (ha : a.length < 2 ^ 62) : Fc Tryz.prog n_ouroborosref01_Ints [ints a, ints b] (sb (decide (a = b))) := by
  refine Fc.of_body tabOk q_ouroborosref01_Ints (by kernel_rfl) ((blwL_cons (blw_ints 0 a) (blwL_one (blw_ints 0 b)))) (rfl) ?_
  conv => whnf
  refine nsp ?_ ?_ <;> intro h <;> conv => whnf
  · exact sbF (by grind)
  · have hl : a.length = b.length := by simp only [List.length_map] at h; omega
    refine loopP tabOk (fun i : Nat => i ≤ a.length ∧ a.take i = b.take i) (fun i => ⟨[(5, iv i), (0, ints a), (1, ints b)], []⟩) (fun _ => ⟨0, [], []⟩) (fun i => a.length - i) 0 (by simp) (by repeat' constructor) (fun _ => rfl) ?_
    rintro i ⟨hi, hp⟩
    conv => whnf
    refine dsp ?_ ?_ <;> intro hlt <;> conv => whnf
    · simp only [List.length_map] at hlt
      obtain ⟨x, hx⟩ : ∃ x, a[i]? = some x := ⟨_, List.getElem?_eq_getElem (by omega)⟩
      obtain ⟨y, hy⟩ : ∃ x, b[i]? = some x := ⟨_, List.getElem?_eq_getElem (by omega)⟩
      repeat' (first
        | (refine bltG (by first | omega | (simp only [List.length_map] at *; omega)) ?_; conv => whnf)
        | (refine ndG (by assumption) ?_; conv => whnf)
        | (refine mulG ?_; conv => whnf)
        | (refine And.intro rfl ?_; conv => whnf)
        | (refine dsT (by assumption) ?_; conv => whnf)
        | (refine dsF (by assumption) ?_; conv => whnf)
        | (refine nsT (by assumption) ?_; conv => whnf)
        | (refine nsF (by assumption) ?_; conv => whnf)
        | (refine bsT (by assumption) ?_; conv => whnf)
        | (refine bsF (by assumption) ?_; conv => whnf)
        | (refine dsp ?_ ?_ <;> intro _ <;> conv => whnf)
        | (refine nsp ?_ ?_ <;> intro _ <;> conv => whnf)
        | (refine cnd_true (by assumption) ?_; conv => whnf)
        | (refine cnd_false (by assumption) ?_; conv => whnf)
        | (refine cnd_split ?_ ?_ <;> intro _ <;> conv => whnf)
        | (refine Cd.par tabOk (by kernel_rfl) (by kernel_rfl) ?_; conv => whnf))
      · exact sbF (by grind)
      · refine ⟨i + 1, ⟨by omega, by rw [List.take_add_one, List.take_add_one, hx, hy, hp]; grind⟩, ?_, ?_⟩
        · first | omega | (simp only [List.length_map] at *; omega)
        · (repeat' constructor) <;> first | (refine ivW ?_ ?_ ?_ <;> first | omega | (dsimp only; omega))
    · repeat' (first
        | (refine bltG (by first | omega | (simp only [List.length_map] at *; omega)) ?_; conv => whnf)
        | (refine ndG (by assumption) ?_; conv => whnf)
        | (refine mulG ?_; conv => whnf)
        | (refine And.intro rfl ?_; conv => whnf)
        | (refine dsT (by assumption) ?_; conv => whnf)
        | (refine dsF (by assumption) ?_; conv => whnf)
        | (refine nsT (by assumption) ?_; conv => whnf)
        | (refine nsF (by assumption) ?_; conv => whnf)
        | (refine bsT (by assumption) ?_; conv => whnf)
        | (refine bsF (by assumption) ?_; conv => whnf)
        | (refine dsp ?_ ?_ <;> intro _ <;> conv => whnf)
        | (refine nsp ?_ ?_ <;> intro _ <;> conv => whnf)
        | (refine cnd_true (by assumption) ?_; conv => whnf)
        | (refine cnd_false (by assumption) ?_; conv => whnf)
        | (refine cnd_split ?_ ?_ <;> intro _ <;> conv => whnf)
        | (refine Cd.par tabOk (by kernel_rfl) (by kernel_rfl) ?_; conv => whnf))
      exact sbT (by grind)
theorem c_ref06_Same (a b : Val) (ha : a.bd) : Fc Tryz.prog n_ouroborosref06_Same [a.sv, b.sv] (sb (decide (a = b))) := by
  obtain ⟨h1, h2⟩ := ha
  refine Fc.of_body tabOk q_ouroborosref06_Same (by kernel_rfl) ((blwL_cons (blw_val 0 a) (blwL_one (blw_val 0 b)))) (rfl) ?_
  conv => whnf
  rw [show decide (a = b) = decide (a.kind = b.kind ∧ a.time = b.time ∧ a.node = b.node ∧ a.dead = b.dead ∧ a.text = b.text ∧ a.plus = b.plus ∧ a.minus = b.minus ∧ a.flags = b.flags) from decide_eq_decide.2 (Val.ext_iff a b)]
  repeat' (first
    | (refine bltG (by first | omega | (simp only [List.length_map] at *; omega)) ?_; conv => whnf)
    | (refine ndG (by assumption) ?_; conv => whnf)
    | (refine mulG ?_; conv => whnf)
    | (refine And.intro rfl ?_; conv => whnf)
    | (refine dsT (by assumption) ?_; conv => whnf)
    | (refine dsF (by assumption) ?_; conv => whnf)
    | (refine nsT (by assumption) ?_; conv => whnf)
    | (refine nsF (by assumption) ?_; conv => whnf)
    | (refine bsT (by assumption) ?_; conv => whnf)
    | (refine bsF (by assumption) ?_; conv => whnf)
    | (refine dsp ?_ ?_ <;> intro _ <;> conv => whnf)
    | (refine nsp ?_ ?_ <;> intro _ <;> conv => whnf)
    | (refine cnd_true (by assumption) ?_; conv => whnf)
    | (refine cnd_false (by assumption) ?_; conv => whnf)
    | (refine cnd_split ?_ ?_ <;> intro _ <;> conv => whnf)
    | (refine Cd.par tabOk (by kernel_rfl) (by kernel_rfl) ?_; conv => whnf)
    | (refine Fc.use (c_ref01_Ints a.plus b.plus (by omega)) ?_ ?_; (focus ((repeat' constructor); done)); conv => whnf)
    | (refine CallQ.of (c_ref01_Ints a.plus b.plus (by omega)) ?_ ?_; (focus ((repeat' constructor); done)); conv => whnf)
    | (refine Fc.use (c_ref01_Ints a.minus b.minus (by omega)) ?_ ?_; (focus ((repeat' constructor); done)); conv => whnf)
    | (refine CallQ.of (c_ref01_Ints a.minus b.minus (by omega)) ?_ ?_; (focus ((repeat' constructor); done)); conv => whnf))
  all_goals first
    | rfl
    | (refine sbT ?_; ((try simp only [List.length_map] at *); first | omega | grind))
    | (refine sbF ?_; ((try simp only [List.length_map] at *); first | omega | grind))
    | (refine sbD ?_; ((try simp only [List.length_map] at *); first | omega | grind))
    | (refine sbB ?_; ((try simp only [List.length_map] at *); first | omega | grind))
    | (refine ivT ?_; ((try simp only [List.length_map] at *); first | omega | grind))
    | (refine ivF ?_; ((try simp only [List.length_map] at *); first | omega | grind))
    | (refine ivD ?_; ((try simp only [List.length_map] at *); first | omega | grind))
theorem Ent.ext_iff (a b : Ent) : a = b ↔ a.key = b.key ∧ a.val = b.val := by
  cases a; cases b; simp
theorem c_ref07_Same (a b : Ent) (ha : a.bd) : Fc Tryz.prog n_ouroborosref07_Same [a.sv, b.sv] (sb (decide (a = b))) := by
  refine Fc.of_body tabOk q_ouroborosref07_Same (by kernel_rfl) ((blwL_cons (blw_ent 0 a) (blwL_one (blw_ent 0 b)))) (rfl) ?_
  conv => whnf
  rw [show decide (a = b) = decide (a.key = b.key ∧ a.val = b.val) from decide_eq_decide.2 (Ent.ext_iff a b)]
  repeat' (first
    | (refine bltG (by first | omega | (simp only [List.length_map] at *; omega)) ?_; conv => whnf)
    | (refine ndG (by assumption) ?_; conv => whnf)
    | (refine mulG ?_; conv => whnf)
    | (refine And.intro rfl ?_; conv => whnf)
    | (refine dsT (by assumption) ?_; conv => whnf)
    | (refine dsF (by assumption) ?_; conv => whnf)
    | (refine nsT (by assumption) ?_; conv => whnf)
    | (refine nsF (by assumption) ?_; conv => whnf)
    | (refine bsT (by assumption) ?_; conv => whnf)
    | (refine bsF (by assumption) ?_; conv => whnf)
    | (refine dsp ?_ ?_ <;> intro _ <;> conv => whnf)
    | (refine nsp ?_ ?_ <;> intro _ <;> conv => whnf)
    | (refine cnd_true (by assumption) ?_; conv => whnf)
    | (refine cnd_false (by assumption) ?_; conv => whnf)
    | (refine cnd_split ?_ ?_ <;> intro _ <;> conv => whnf)
    | (refine Cd.par tabOk (by kernel_rfl) (by kernel_rfl) ?_; conv => whnf)
    | (refine Fc.use (c_ref06_Same a.val b.val ha) ?_ ?_; (focus ((repeat' constructor); done)); conv => whnf)
    | (refine CallQ.of (c_ref06_Same a.val b.val ha) ?_ ?_; (focus ((repeat' constructor); done)); conv => whnf))
  all_goals first
    | rfl
    | (refine sbT ?_; ((try simp only [List.length_map] at *); first | omega | grind))
    | (refine sbF ?_; ((try simp only [List.length_map] at *); first | omega | grind))
    | (refine sbD ?_; ((try simp only [List.length_map] at *); first | omega | grind))
    | (refine sbB ?_; ((try simp only [List.length_map] at *); first | omega | grind))
    | (refine ivT ?_; ((try simp only [List.length_map] at *); first | omega | grind))
    | (refine ivF ?_; ((try simp only [List.length_map] at *); first | omega | grind))
    | (refine ivD ?_; ((try simp only [List.length_map] at *); first | omega | grind))
theorem c_ref07_All (a b : List Ent) (hb : ∀ e ∈ a, e.bd) (ha : a.length < 2 ^ 62) : Fc Tryz.prog n_ouroborosref07_All [ents a, ents b] (sb (decide (a = b))) := by
  refine Fc.of_body tabOk q_ouroborosref07_All (by kernel_rfl) ((blwL_cons (blw_ents 0 a) (blwL_one (blw_ents 0 b)))) (rfl) ?_
  conv => whnf
  refine nsp ?_ ?_ <;> intro h <;> conv => whnf
  · exact sbF (by grind)
  · have hl : a.length = b.length := by simp only [List.length_map] at h; omega
    refine loopP tabOk (fun i : Nat => i ≤ a.length ∧ a.take i = b.take i) (fun i => ⟨[(5, iv i), (0, ents a), (1, ents b)], []⟩) (fun _ => ⟨0, [], []⟩) (fun i => a.length - i) 0 (by simp) (by repeat' constructor) (fun _ => rfl) ?_
    rintro i ⟨hi, hp⟩
    conv => whnf
    refine dsp ?_ ?_ <;> intro hlt <;> conv => whnf
    · simp only [List.length_map] at hlt
      obtain ⟨x, hx⟩ : ∃ x, a[i]? = some x := ⟨_, List.getElem?_eq_getElem (by omega)⟩
      obtain ⟨y, hy⟩ : ∃ x, b[i]? = some x := ⟨_, List.getElem?_eq_getElem (by omega)⟩
      repeat' (first
        | (refine bltG (by first | omega | (simp only [List.length_map] at *; omega)) ?_; conv => whnf)
        | (refine ndG (by assumption) ?_; conv => whnf)
        | (refine mulG ?_; conv => whnf)
        | (refine And.intro rfl ?_; conv => whnf)
        | (refine dsT (by assumption) ?_; conv => whnf)
        | (refine dsF (by assumption) ?_; conv => whnf)
        | (refine nsT (by assumption) ?_; conv => whnf)
        | (refine nsF (by assumption) ?_; conv => whnf)
        | (refine bsT (by assumption) ?_; conv => whnf)
        | (refine bsF (by assumption) ?_; conv => whnf)
        | (refine dsp ?_ ?_ <;> intro _ <;> conv => whnf)
        | (refine nsp ?_ ?_ <;> intro _ <;> conv => whnf)
        | (refine cnd_true (by assumption) ?_; conv => whnf)
        | (refine cnd_false (by assumption) ?_; conv => whnf)
        | (refine cnd_split ?_ ?_ <;> intro _ <;> conv => whnf)
        | (refine Cd.par tabOk (by kernel_rfl) (by kernel_rfl) ?_; conv => whnf)
        | (refine Fc.use (c_ref07_Same x y (hb x (List.mem_of_getElem? hx))) ?_ ?_; (focus ((repeat' constructor); done)); conv => whnf)
        | (refine CallQ.of (c_ref07_Same x y (hb x (List.mem_of_getElem? hx))) ?_ ?_; (focus ((repeat' constructor); done)); conv => whnf))
      · exact sbF (by grind)
      · refine ⟨i + 1, ⟨by omega, by rw [List.take_add_one, List.take_add_one, hx, hy, hp]; grind⟩, ?_, ?_⟩
        · first | omega | (simp only [List.length_map] at *; omega)
        · (repeat' constructor) <;> first | (refine ivW ?_ ?_ ?_ <;> first | omega | (dsimp only; omega))
    · repeat' (first
        | (refine bltG (by first | omega | (simp only [List.length_map] at *; omega)) ?_; conv => whnf)
        | (refine ndG (by assumption) ?_; conv => whnf)
        | (refine mulG ?_; conv => whnf)
        | (refine And.intro rfl ?_; conv => whnf)
        | (refine dsT (by assumption) ?_; conv => whnf)
        | (refine dsF (by assumption) ?_; conv => whnf)
        | (refine nsT (by assumption) ?_; conv => whnf)
        | (refine nsF (by assumption) ?_; conv => whnf)
        | (refine bsT (by assumption) ?_; conv => whnf)
        | (refine bsF (by assumption) ?_; conv => whnf)
        | (refine dsp ?_ ?_ <;> intro _ <;> conv => whnf)
        | (refine nsp ?_ ?_ <;> intro _ <;> conv => whnf)
        | (refine cnd_true (by assumption) ?_; conv => whnf)
        | (refine cnd_false (by assumption) ?_; conv => whnf)
        | (refine cnd_split ?_ ?_ <;> intro _ <;> conv => whnf)
        | (refine Cd.par tabOk (by kernel_rfl) (by kernel_rfl) ?_; conv => whnf))
      exact sbT (by grind)
theorem few_bd {v : Val} (h : valFew v) : v.bd := ⟨by have := h.2.1; omega, by have := h.2.2; omega⟩
theorem c_law08_Entries (l : List Ent) (m : Int) (hm : 0 ≤ m ∧ m ≤ 1000) : Fc Tryz.prog n_ouroboroslaw08_Entries [ents l, iv m] (sb (decide (l.length ≤ m ∧ ∀ e ∈ l, entFew e))) := by
  refine Fc.of_body tabOk q_ouroboroslaw08_Entries (by kernel_rfl) ((blwL_cons (blw_ents 0 l) (blwL_one rfl))) (rfl) ?_
  conv => whnf
  refine loopP tabOk (fun i : Nat => i ≤ l.length ∧ (i : Int) ≤ m + 1 ∧ ∀ e ∈ l.take i, entFew e) (fun i => ⟨[(5, iv i), (0, ents l), (1, iv m)], []⟩) (fun _ => ⟨0, [], []⟩) (fun i => l.length - i) 0 (by simp; omega) (by repeat' constructor) (fun _ => rfl) ?_
  rintro i ⟨hi, hi2, hp⟩
  by_cases hlt : i < l.length
  · obtain ⟨x, hx⟩ : ∃ x, l[i]? = some x := ⟨_, List.getElem?_eq_getElem (by omega)⟩
    conv => whnf
    repeat' (first
      | (refine bltG (by first | omega | (simp only [List.length_map] at *; omega)) ?_; conv => whnf)
      | (refine ndG (by assumption) ?_; conv => whnf)
      | (refine mulG ?_; conv => whnf)
      | (refine And.intro rfl ?_; conv => whnf)
      | (refine dsT (by assumption) ?_; conv => whnf)
      | (refine dsF (by assumption) ?_; conv => whnf)
      | (refine nsT (by assumption) ?_; conv => whnf)
      | (refine nsF (by assumption) ?_; conv => whnf)
      | (refine bsT (by assumption) ?_; conv => whnf)
      | (refine bsF (by assumption) ?_; conv => whnf)
      | (refine dsp ?_ ?_ <;> intro _ <;> conv => whnf)
      | (refine nsp ?_ ?_ <;> intro _ <;> conv => whnf)
      | (refine cnd_true (by assumption) ?_; conv => whnf)
      | (refine cnd_false (by assumption) ?_; conv => whnf)
      | (refine cnd_split ?_ ?_ <;> intro _ <;> conv => whnf)
      | (refine Cd.par tabOk (by kernel_rfl) (by kernel_rfl) ?_; conv => whnf)
      | (refine Fc.use (c_law07_Few x) ?_ ?_; (focus ((repeat' constructor); done)); conv => whnf)
      | (refine CallQ.of (c_law07_Few x) ?_ ?_; (focus ((repeat' constructor); done)); conv => whnf))
    · refine sbF ?_
      exact fun h => absurd (h.2 x (List.mem_of_getElem? hx)) (by assumption)
    · have hp' : ∀ e ∈ l.take (i + 1), entFew e := by rw [List.take_add_one, hx]; grind
      refine ⟨i + 1, ⟨by omega, by omega, hp'⟩, ?_, ?_⟩
      · first | omega | (simp only [List.length_map] at *; omega)
      · (repeat' constructor) <;> first | (refine ivW ?_ ?_ ?_ <;> first | omega | (dsimp only; omega))
    · refine sbD ?_; simp only [List.length_map]; constructor
      · intro h; omega
      · intro h; exact h.1
    · exfalso; simp only [List.length_map] at *; omega
  · have hf : ¬ ((i : Int) < ((l.map Ent.sv).length : Nat)) := by simp only [List.length_map]; omega
    conv => whnf
    repeat' (first
      | (refine bltG (by first | omega | (simp only [List.length_map] at *; omega)) ?_; conv => whnf)
      | (refine ndG (by assumption) ?_; conv => whnf)
      | (refine mulG ?_; conv => whnf)
      | (refine And.intro rfl ?_; conv => whnf)
      | (refine dsT (by assumption) ?_; conv => whnf)
      | (refine dsF (by assumption) ?_; conv => whnf)
      | (refine nsT (by assumption) ?_; conv => whnf)
      | (refine nsF (by assumption) ?_; conv => whnf)
      | (refine bsT (by assumption) ?_; conv => whnf)
      | (refine bsF (by assumption) ?_; conv => whnf)
      | (refine dsp ?_ ?_ <;> intro _ <;> conv => whnf)
      | (refine nsp ?_ ?_ <;> intro _ <;> conv => whnf)
      | (refine cnd_true (by assumption) ?_; conv => whnf)
      | (refine cnd_false (by assumption) ?_; conv => whnf)
      | (refine cnd_split ?_ ?_ <;> intro _ <;> conv => whnf)
      | (refine Cd.par tabOk (by kernel_rfl) (by kernel_rfl) ?_; conv => whnf))
    have hp' : ∀ e ∈ l, entFew e := by rw [List.take_of_length_le (by omega)] at hp; exact hp
    refine sbD ?_
    simp only [List.length_map]
    exact ⟨fun h => ⟨h, hp'⟩, fun h => h.1⟩
def arFew (a : Ar) : Prop := (a.slots.length ≤ (12 : Int) ∧ ∀ e ∈ a.slots, entFew e) ∧ a.index.length ≤ 40
instance (a : Ar) : Decidable (arFew a) := by unfold arFew; infer_instance
theorem c_law08_Few (a : Ar) : Fc Tryz.prog n_ouroboroslaw08_Few [a.sv] (sb (decide (arFew a))) := by
  refine Fc.of_body tabOk q_ouroboroslaw08_Few (by kernel_rfl) ((blwL_one (blw_ar 0 a))) (rfl) ?_
  conv => whnf
  repeat' (first
    | (refine bltG (by first | omega | (simp only [List.length_map] at *; omega)) ?_; conv => whnf)
    | (refine ndG (by assumption) ?_; conv => whnf)
    | (refine mulG ?_; conv => whnf)
    | (refine And.intro rfl ?_; conv => whnf)
    | (refine dsT (by assumption) ?_; conv => whnf)
    | (refine dsF (by assumption) ?_; conv => whnf)
    | (refine nsT (by assumption) ?_; conv => whnf)
    | (refine nsF (by assumption) ?_; conv => whnf)
    | (refine bsT (by assumption) ?_; conv => whnf)
    | (refine bsF (by assumption) ?_; conv => whnf)
    | (refine dsp ?_ ?_ <;> intro _ <;> conv => whnf)
    | (refine nsp ?_ ?_ <;> intro _ <;> conv => whnf)
    | (refine cnd_true (by assumption) ?_; conv => whnf)
    | (refine cnd_false (by assumption) ?_; conv => whnf)
    | (refine cnd_split ?_ ?_ <;> intro _ <;> conv => whnf)
    | (refine Cd.par tabOk (by kernel_rfl) (by kernel_rfl) ?_; conv => whnf)
    | (refine Fc.use (c_law08_Entries a.slots 12 (by omega)) ?_ ?_; (focus ((repeat' constructor); done)); conv => whnf)
    | (refine CallQ.of (c_law08_Entries a.slots 12 (by omega)) ?_ ?_; (focus ((repeat' constructor); done)); conv => whnf))
  all_goals first
    | rfl
    | (refine sbT ?_; ((try simp only [List.length_map, arFew] at *); first | omega | grind))
    | (refine sbF ?_; ((try simp only [List.length_map, arFew] at *); first | omega | grind))
    | (refine sbD ?_; ((try simp only [List.length_map, arFew] at *); first | omega | grind))
    | (refine sbB ?_; ((try simp only [List.length_map, arFew] at *); first | omega | grind))
    | (refine ivT ?_; ((try simp only [List.length_map, arFew] at *); first | omega | grind))
    | (refine ivF ?_; ((try simp only [List.length_map, arFew] at *); first | omega | grind))
    | (refine ivD ?_; ((try simp only [List.length_map, arFew] at *); first | omega | grind))
theorem arFew.bd {a : Ar} (h : arFew a) : a.bd := ⟨fun e he => few_bd (h.1.2 e he).1, by have := h.1.1; omega, by have := h.2; omega⟩
end Go.Proofs.YtmjpidjdbofdjaaGreat

