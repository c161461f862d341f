import Derived.Test.YtmjpidjdbofdjaaGreatVn
/- Contracts: arena.Chunk. -/
set_option linter.unusedVariables false
set_option linter.unusedSimpArgs false
set_option maxRecDepth 100000
set_option maxHeartbeats 1600000
namespace Go.Proofs.YtmjpidjdbofdjaaGreat
open Go Go.Sy
structure Q3 where
  A : Option Addr
  n : Nat
  c : Nat
def sel (l : List Ent) (t n i : Nat) : List Ent := ((l.take i).drop t).take n
theorem sel_step {l : List Ent} {t n i : Nat} {x : Ent} (hx : l[i]? = some x) : sel l t n (i + 1) = ((l.take i ++ [x]).drop t).take n := by
  unfold sel; rw [List.take_add_one, hx]; rfl
theorem sel_in {l : List Ent} {t n i : Nat} {x : Ent} (hx : l[i]? = some x) (ht : t ≤ i) (hn : i - t < n) : sel l t n (i + 1) = sel l t n i ++ [x] := by
  have hi := (List.getElem?_eq_some_iff.1 hx).1
  rw [sel_step hx]
  unfold sel
  rw [List.drop_append_of_le_length (by simp; omega), List.take_of_length_le (l := _ ++ [x]) (by simp only [List.length_append, List.length_drop, List.length_take, List.length_singleton]; omega), List.take_of_length_le (l := List.drop t (List.take i l)) (by simp only [List.length_drop, List.length_take]; omega)]
theorem sel_out {l : List Ent} {t n i : Nat} {x : Ent} (hx : l[i]? = some x) (h : ¬ (t ≤ i ∧ i - t < n)) : sel l t n (i + 1) = sel l t n i := by
  have hi := (List.getElem?_eq_some_iff.1 hx).1
  rw [sel_step hx]
  unfold sel
  by_cases ht : t ≤ i
  · rw [List.drop_append_of_le_length (by simp; omega), List.take_append_of_le_length (by simp; omega)]
  · rw [List.drop_eq_nil_of_le (by simp; omega), List.drop_eq_nil_of_le (by simp; omega)]
theorem c_arena_Chunk (a : Ar) (ha : a.bd) (hk : arOk a) (t n : Nat) (ht : t ≤ 8) (hn : n ≤ 8) : Fc Tryz.prog n_arena_Chunk [a.sv, iv t, iv n] (ents (sel a.slots t n a.slots.length)) := by
  have hlen : a.slots.length ≤ 8 := by have h1 := hk.2.1; have h2 := hk.2.2.1; omega
  have hck := c_arena_Check a ha
  have h0 : (if arOk a then (0 : Int) else 2) = 0 := if_pos hk
  refine Fc.of_body tabOk q_arena_Chunk (by kernel_rfl) ((blwL_cons (blw_ar 0 a) (blwL_cons rfl (blwL_one rfl)))) ((blw_ents 0 _)) ?_
  conv => whnf
  repeat' (first
    | (refine bltG (by first | omega | (simp only [List.length_map] at *; omega)) ?_; conv => whnf)
    | (refine ndG (by assumption) ?_; conv => whnf)
    | (refine mulG ?_; conv => whnf)
    | (refine And.intro rfl ?_; conv => whnf)
    | (refine dsT (by assumption) ?_; conv => whnf)
    | (refine dsF (by assumption) ?_; conv => whnf)
    | (refine nsT (by assumption) ?_; conv => whnf)
    | (refine nsF (by assumption) ?_; conv => whnf)
    | (refine bsT (by assumption) ?_; conv => whnf)
    | (refine bsF (by assumption) ?_; conv => whnf)
    | (refine dsp ?_ ?_ <;> intro _ <;> conv => whnf)
    | (refine nsp ?_ ?_ <;> intro _ <;> conv => whnf)
    | (refine cnd_true (by assumption) ?_; conv => whnf)
    | (refine cnd_false (by assumption) ?_; conv => whnf)
    | (refine cnd_split ?_ ?_ <;> intro _ <;> conv => whnf)
    | (refine Cd.par tabOk (by kernel_rfl) (by kernel_rfl) ?_; conv => whnf)
    | (refine Tr.of_body tabOk q_arena_each (by kernel_rfl) ?_; conv => whnf))

  refine Cd.rangeFunc [(3, .loc 0 0), (4, .loc 1 0), (5, .loc 2 0), (7, .loc 3 0)] (by repeat' constructor) ?_
  conv => whnf
  refine And.intro ⟨_, q_arena_each_1, by kernel_rfl⟩ ?_
  refine Tr.of_body tabOk q_arena_each_1 (by kernel_rfl) ?_
  conv => whnf
  repeat' (first
    | (refine bltG (by first | omega | (simp only [List.length_map] at *; omega)) ?_; conv => whnf)
    | (refine ndG (by assumption) ?_; conv => whnf)
    | (refine mulG ?_; conv => whnf)
    | (refine And.intro rfl ?_; conv => whnf)
    | (refine dsT (by assumption) ?_; conv => whnf)
    | (refine dsF (by assumption) ?_; conv => whnf)
    | (refine nsT (by assumption) ?_; conv => whnf)
    | (refine nsF (by assumption) ?_; conv => whnf)
    | (refine bsT (by assumption) ?_; conv => whnf)
    | (refine bsF (by assumption) ?_; conv => whnf)
    | (refine dsp ?_ ?_ <;> intro _ <;> conv => whnf)
    | (refine nsp ?_ ?_ <;> intro _ <;> conv => whnf)
    | (refine cnd_true (by assumption) ?_; conv => whnf)
    | (refine cnd_false (by assumption) ?_; conv => whnf)
    | (refine cnd_split ?_ ?_ <;> intro _ <;> conv => whnf)
    | (refine Cd.par tabOk (by kernel_rfl) (by kernel_rfl) ?_; conv => whnf)
    | (refine Fc.use (hck) ?_ ?_; (focus ((repeat' constructor); done)); conv => whnf)
    | (refine CallQ.of (hck) ?_ ?_; (focus ((repeat' constructor); done)); conv => whnf))
  refine Cd.nilRow t_Entry 9 ?_
  conv => whnf
  have hN : (a.slots.map Ent.sv).length = a.slots.length := List.length_map ..
  refine loopP2 tabOk (fun (i : Nat) (q : Q3) => i ≤ a.slots.length ∧ q.n = (sel a.slots t n i).length ∧ RowV q.A q.n q.c)
    (fun i q => ⟨[(11, iv i), (10, iv (a.slots.map Ent.sv).length), (9, ents a.slots), (0, .yld 5), (1, .loc 4 0)], []⟩)
    (fun i q => ⟨6, [.c [iv a.cap, ents a.slots, ints a.index], .c [iv t], .c [iv n], .c [.own 0 q.A q.n q.c], .c [iv a.cap, ents a.slots, ints a.index], .lp ⟨.ready, none, F_arena_Chunk.ntmps, [(3, .loc 0 0), (4, .loc 1 0), (5, .loc 2 0), (7, .loc 3 0)], _, _, _⟩], [⟨q.A, q.n, q.c, t_Entry, 9, (sel a.slots t n i).map Ent.sv, false⟩]⟩)
    (fun i q => a.slots.length - i) 0 ⟨none, 0, 0⟩ ⟨Nat.zero_le _, by simp [sel], ⟨Nat.le_refl _, Nat.zero_le _, fun _ => ⟨rfl, rfl⟩, fun _ h => by cases h⟩⟩ (by simp only [sel, List.take_zero, List.drop_nil, List.take_nil, List.map_nil]; repeat' constructor) (fun _ _ => rfl) ?_
  rintro i ⟨A, m, c⟩ ⟨hi, hm, hv⟩
  simp only at hm hv
  conv => whnf
  refine dsp ?_ ?_ <;> intro hlt <;> conv => whnf
  · rw [hN] at hlt
    obtain ⟨x, hx⟩ : ∃ x, a.slots[i]? = some x := ⟨_, List.getElem?_eq_getElem (by omega)⟩
    have hw : IntKind.wrap .i64 ((i : Int) - t) = i - t := by rw [wrap_i64] <;> omega
    repeat' (first
      | (refine bltG (by first | omega | (simp only [List.length_map] at *; omega)) ?_; conv => whnf)
      | (refine ndG (by assumption) ?_; conv => whnf)
      | (refine mulG ?_; conv => whnf)
      | (refine And.intro rfl ?_; conv => whnf)
      | (refine dsT (by assumption) ?_; conv => whnf)
      | (refine dsF (by assumption) ?_; conv => whnf)
      | (refine nsT (by assumption) ?_; conv => whnf)
      | (refine nsF (by assumption) ?_; conv => whnf)
      | (refine bsT (by assumption) ?_; conv => whnf)
      | (refine bsF (by assumption) ?_; conv => whnf)
      | (refine dsp ?_ ?_ <;> intro _ <;> conv => whnf)
      | (refine nsp ?_ ?_ <;> intro _ <;> conv => whnf)
      | (refine cnd_true (by assumption) ?_; conv => whnf)
      | (refine cnd_false (by assumption) ?_; conv => whnf)
      | (refine cnd_split ?_ ?_ <;> intro _ <;> conv => whnf)
      | (refine Cd.par tabOk (by kernel_rfl) (by kernel_rfl) ?_; conv => whnf)
      | (refine RdQ.of_vc tabOk ?_; (conv => whnf); intro _; conv => whnf))
    · have hs := sel_in (n := n) hx (show t ≤ i by omega) (by rw [hw] at *; omega)
      have hml : m ≤ 8 := by rw [hm]; simp only [sel, List.length_take, List.length_drop]; omega
      refine And.intro ⟨rfl, rfl, rfl, rfl, rfl, rfl, ?_, ?_⟩ fun A' c' hv' => ?_
      · have : 19 ≤ maxLen := by decide
        show m + 1 ≤ maxLen
        omega
      · show (m + 1) * 120 ≤ 140737488355328
        omega
      rw [lf_eq]
      conv => whnf
      repeat' (first
        | (refine bltG (by first | omega | (simp only [List.length_map] at *; omega)) ?_; conv => whnf)
        | (refine ndG (by assumption) ?_; conv => whnf)
        | (refine mulG ?_; conv => whnf)
        | (refine And.intro rfl ?_; conv => whnf)
        | (refine dsT (by assumption) ?_; conv => whnf)
        | (refine dsF (by assumption) ?_; conv => whnf)
        | (refine nsT (by assumption) ?_; conv => whnf)
        | (refine nsF (by assumption) ?_; conv => whnf)
        | (refine bsT (by assumption) ?_; conv => whnf)
        | (refine bsF (by assumption) ?_; conv => whnf)
        | (refine dsp ?_ ?_ <;> intro _ <;> conv => whnf)
        | (refine nsp ?_ ?_ <;> intro _ <;> conv => whnf)
        | (refine cnd_true (by assumption) ?_; conv => whnf)
        | (refine cnd_false (by assumption) ?_; conv => whnf)
        | (refine cnd_split ?_ ?_ <;> intro _ <;> conv => whnf)
        | (refine Cd.par tabOk (by kernel_rfl) (by kernel_rfl) ?_; conv => whnf)
        | (refine RdQ.of_vc tabOk ?_; (conv => whnf); intro _; conv => whnf))
      refine ⟨i + 1, ⟨A', m + 1, c'⟩, ⟨by omega, by rw [hs, List.length_append, ← hm]; rfl, hv'⟩, by omega, ⟨?_, rfl, ⟨?_, trivial⟩, ?_, rfl, (.inr ⟨by simp [blwE, blw_iv, blw_ents, blw] <;> rfl, rfl, by simp [blwB, blwX, blwL, blw_iv, blw_ents, blw_ints, blw, blwE] <;> rfl, by simp [blwR, blwL_map (blw_ent _), blw_ent]⟩)⟩⟩
      · (repeat' constructor) <;> (refine ivW ?_ ?_ ?_ <;> omega)
      · exact rowEq (by rw [hs, List.map_append]; rfl)
      · repeat' constructor
    · have hs := sel_out (n := n) hx (show ¬ (t ≤ i ∧ i - t < n) by rw [hw] at *; omega)
      refine ⟨i + 1, ⟨A, m, c⟩, ⟨by omega, by rw [hs, ← hm], hv⟩, by omega, ⟨?_, rfl, ⟨?_, trivial⟩, ?_, rfl, (.inr ⟨by simp [blwE, blw_iv, blw_ents, blw] <;> rfl, rfl, by simp [blwB, blwX, blwL, blw_iv, blw_ents, blw_ints, blw, blwE] <;> rfl, by simp [blwR, blwL_map (blw_ent _), blw_ent]⟩)⟩⟩
      · (repeat' constructor) <;> (refine ivW ?_ ?_ ?_ <;> omega)
      · exact rowEq (by rw [hs])
      · repeat' constructor
    · have hs := sel_out (n := n) hx (show ¬ (t ≤ i ∧ i - t < n) by omega)
      refine ⟨i + 1, ⟨A, m, c⟩, ⟨by omega, by rw [hs, ← hm], hv⟩, by omega, ⟨?_, rfl, ⟨?_, trivial⟩, ?_, rfl, (.inr ⟨by simp [blwE, blw_iv, blw_ents, blw] <;> rfl, rfl, by simp [blwB, blwX, blwL, blw_iv, blw_ents, blw_ints, blw, blwE] <;> rfl, by simp [blwR, blwL_map (blw_ent _), blw_ent]⟩)⟩⟩
      · (repeat' constructor) <;> (refine ivW ?_ ?_ ?_ <;> omega)
      · exact rowEq (by rw [hs])
      · repeat' constructor
  · repeat' (first
      | (refine bltG (by first | omega | (simp only [List.length_map] at *; omega)) ?_; conv => whnf)
      | (refine ndG (by assumption) ?_; conv => whnf)
      | (refine mulG ?_; conv => whnf)
      | (refine And.intro rfl ?_; conv => whnf)
      | (refine dsT (by assumption) ?_; conv => whnf)
      | (refine dsF (by assumption) ?_; conv => whnf)
      | (refine nsT (by assumption) ?_; conv => whnf)
      | (refine nsF (by assumption) ?_; conv => whnf)
      | (refine bsT (by assumption) ?_; conv => whnf)
      | (refine bsF (by assumption) ?_; conv => whnf)
      | (refine dsp ?_ ?_ <;> intro _ <;> conv => whnf)
      | (refine nsp ?_ ?_ <;> intro _ <;> conv => whnf)
      | (refine cnd_true (by assumption) ?_; conv => whnf)
      | (refine cnd_false (by assumption) ?_; conv => whnf)
      | (refine cnd_split ?_ ?_ <;> intro _ <;> conv => whnf)
      | (refine Cd.par tabOk (by kernel_rfl) (by kernel_rfl) ?_; conv => whnf))
    rw [hN] at hlt
    have hie : i = a.slots.length := by omega
    subst hie
    repeat' constructor
end Go.Proofs.YtmjpidjdbofdjaaGreat

