import Derived.Test.YtmjpidjdbofdjaaGreatWa
/- Contracts: arena.Join, arena.Merge. -/
set_option linter.unusedVariables false
set_option linter.unusedSimpArgs false
set_option maxRecDepth 100000
set_option maxHeartbeats 1600000
namespace Go.Proofs.YtmjpidjdbofdjaaGreat
open Go Go.Sy
theorem c_JoinS (a : Ar) (e : Ent) (hk : arOk a) (he : entOk e) (ha : a.bd) (i : Nat) (hf : findE a.slots e = some i) : Fc Tryz.prog n_arena_Join [a.sv, e.sv] (.tup [(putE a e).sv, sb (putC a e), iv 0]) := by
  have hlen : a.slots.length ≤ 8 := by have h1 := hk.2.1; have h2 := hk.2.2.1; omega
  have h1 := c_arena_Check a ha
  have h2 := c_entry_Check e he.bd
  have h3 := c_arena_Find1 a ha hk e.val.kind e.key
  rw [findZ_eq, hf] at h3
  replace h3 : Fc Tryz.prog n_arena_Find [a.sv, iv e.val.kind, ss e.key] (iv i) := h3
  rw [en0 hk] at h1
  rw [en0 he] at h2
  obtain ⟨x0, hx0, hxe⟩ := findE_some hf
  have hg : a.slots.getD i e = x0 := by rw [List.getD_eq_getElem?_getD, hx0]; rfl
  have hm0 := List.mem_of_getElem? hx0
  have hil := (List.getElem?_eq_some_iff.1 hx0).1
  have ho0 := hk.2.2.2.1 x0 hm0
  have h4 := c_entry_Join x0 e ho0 he hxe
  have hjo := joinE_ok ho0 he hxe
  have h5 := c_entry_Same (joinE x0 e) x0 hjo.bd
  rw [show putE a e = ⟨a.cap, a.slots.set i (joinE x0 e), a.index⟩ by unfold putE; rw [hf]; simp only [hg]]
  rw [show putC a e = !decide (joinE x0 e = x0) by unfold putC; rw [hf]; simp only [hg, decide_not]]
  have hmx : 4096 ≤ maxLen := by decide
  generalize hj : joinE x0 e = j at *
  obtain ⟨cap, slots, index⟩ := a
  dsimp only at *
  have hneg : ¬ ((i : Nat) : Int) < 0 := by omega
  refine Fc.of_body tabOk q_arena_Join (by kernel_rfl) ((blwL_cons (blw_ar 0 _) (blwL_one (blw_ent 0 e)))) ((blw_res _ _ _)) ?_
  conv => whnf
  repeat' (first
    | (refine bltG (by first | omega | (simp only [List.length_map] at *; omega)) ?_; conv => whnf)
    | (refine ndG (by assumption) ?_; conv => whnf)
    | (refine mulG ?_; conv => whnf)
    | (refine And.intro rfl ?_; conv => whnf)
    | (refine dsT (by assumption) ?_; conv => whnf)
    | (refine dsF (by assumption) ?_; conv => whnf)
    | (refine nsT (by assumption) ?_; conv => whnf)
    | (refine nsF (by assumption) ?_; conv => whnf)
    | (refine bsT (by assumption) ?_; conv => whnf)
    | (refine bsF (by assumption) ?_; conv => whnf)
    | (refine dsp ?_ ?_ <;> intro _ <;> conv => whnf)
    | (refine nsp ?_ ?_ <;> intro _ <;> conv => whnf)
    | (refine cnd_true (by assumption) ?_; conv => whnf)
    | (refine cnd_false (by assumption) ?_; conv => whnf)
    | (refine cnd_split ?_ ?_ <;> intro _ <;> conv => whnf)
    | (refine Cd.par tabOk (by kernel_rfl) (by kernel_rfl) ?_; conv => whnf)
    | (refine Tr.of_body tabOk q_arena_changing_put (by kernel_rfl) ?_; conv => whnf)
    | (refine Fc.use (h1) ?_ ?_; (focus ((repeat' constructor); done)); conv => whnf)
    | (refine CallQ.of (h1) ?_ ?_; (focus ((repeat' constructor); done)); conv => whnf)
    | (refine Fc.use (h2) ?_ ?_; (focus ((repeat' constructor); done)); conv => whnf)
    | (refine CallQ.of (h2) ?_ ?_; (focus ((repeat' constructor); done)); conv => whnf)
    | (refine Fc.use (h3) ?_ ?_; (focus ((repeat' constructor); done)); conv => whnf)
    | (refine CallQ.of (h3) ?_ ?_; (focus ((repeat' constructor); done)); conv => whnf)
    | rfl
    | exact True.intro
    | (refine And.intro ?_ ?_ <;> conv => whnf)
    | (refine Tr.of_body tabOk q_slices_Clone_LEntry_Entry (by kernel_rfl) ?_; conv => whnf))
  intro b hb
  cases slots with
  | nil => simp at hil
  | cons x r =>
    obtain rfl : b = false := by cases b; rfl; exact absurd (hb rfl) (by simp)
    simp only [List.length_cons] at hlen
    conv => whnf
    refine And.intro rfl ?_
    conv => whnf
    refine And.intro ⟨?_, ?_⟩ fun A' c' hv => ?_
    · simp only [List.length_map, List.length_cons]; omega
    · simp only [List.length_map, List.length_cons]; omega
    obtain ⟨g, rfl⟩ : ∃ g, A' = some ⟨g, 0, none⟩ := rowV_some hv (by simp)
    conv => whnf
    repeat' (first
      | (refine bltG (by first | omega | (simp only [List.length_map] at *; omega)) ?_; conv => whnf)
      | (refine ndG (by assumption) ?_; conv => whnf)
      | (refine mulG ?_; conv => whnf)
      | (refine And.intro rfl ?_; conv => whnf)
      | (refine dsT (by assumption) ?_; conv => whnf)
      | (refine dsF (by assumption) ?_; conv => whnf)
      | (refine nsT (by assumption) ?_; conv => whnf)
      | (refine nsF (by assumption) ?_; conv => whnf)
      | (refine bsT (by assumption) ?_; conv => whnf)
      | (refine bsF (by assumption) ?_; conv => whnf)
      | (refine dsp ?_ ?_ <;> intro _ <;> conv => whnf)
      | (refine nsp ?_ ?_ <;> intro _ <;> conv => whnf)
      | (refine cnd_true (by assumption) ?_; conv => whnf)
      | (refine cnd_false (by assumption) ?_; conv => whnf)
      | (refine cnd_split ?_ ?_ <;> intro _ <;> conv => whnf)
      | (refine Cd.par tabOk (by kernel_rfl) (by kernel_rfl) ?_; conv => whnf)
      | (refine Fc.use (h4) ?_ ?_; (focus ((repeat' constructor); done)); conv => whnf)
      | (refine CallQ.of (h4) ?_ ?_; (focus ((repeat' constructor); done)); conv => whnf)
      | (refine Fc.use (h5) ?_ ?_; (focus ((repeat' constructor); done)); conv => whnf)
      | (refine CallQ.of (h5) ?_ ?_; (focus ((repeat' constructor); done)); conv => whnf)
      | rfl
      | exact True.intro
      | (refine And.intro ?_ ?_ <;> conv => whnf))
    show ((x :: r).map Ent.sv).set i j.sv = ((x :: r).set i j).map Ent.sv
    rw [List.map_set]
theorem c_arena_Join (a : Ar) (e : Ent) (ha : a.bd) (he : e.bd) : Fc Tryz.prog n_arena_Join [a.sv, e.sv] (.tup [(joinA a e).sv, sb (joinC a e), iv (putN a e)]) := by
  by_cases h : arOk a ∧ entOk e
  · obtain ⟨hk, hok⟩ := h
    cases hf : findE a.slots e with
    | none =>
      by_cases hr : (a.slots.length : Int) = a.cap
      · have hp : putN a e = 4 := by unfold putN; rw [if_neg (by simp [hk, hok]), if_pos ⟨hf, hr⟩]
        rw [show joinA a e = a by unfold joinA; rw [if_neg (by omega)], show joinC a e = false by unfold joinC; rw [if_neg (by omega)], hp]
        exact c_Join4 a e hk hok ha hf hr
      · have hp : putN a e = 0 := by unfold putN; rw [if_neg (by simp [hk, hok]), if_neg (fun h => hr h.2)]
        rw [show joinA a e = putE a e by unfold joinA; rw [if_pos hp], show joinC a e = true by unfold joinC putC; rw [if_pos hp, hf], hp]
        exact c_JoinN a e hk hok ha hf hr
    | some i =>
      have hp : putN a e = 0 := by unfold putN; rw [if_neg (by simp [hk, hok]), if_neg (by rw [hf]; simp)]
      rw [show joinA a e = putE a e by unfold joinA; rw [if_pos hp], show joinC a e = putC a e by unfold joinC; rw [if_pos hp], hp]
      exact c_JoinS a e hk hok ha i hf
  · have hp : putN a e = 2 := by unfold putN; rw [if_pos h]
    rw [show joinA a e = a by unfold joinA; rw [if_neg (by omega)], show joinC a e = false by unfold joinC; rw [if_neg (by omega)], hp]
    exact c_Join0 a e ha he h
theorem joinA_bd {a : Ar} (e : Ent) (ha : a.bd) : (joinA a e).bd := by
  unfold joinA
  split
  · obtain ⟨_, _, h1, h2, h3, h4, h5, h6⟩ := put_ok ‹_›
    refine ⟨fun x hx => (h4 x hx).bd, by omega, ?_⟩
    rw [← h6, List.length_map, (idx_perm _).length_eq, List.length_range]
    omega
  · exact ha
def mstep (s : Ar × Nat × Nat) (e : Ent) : Ar × Nat × Nat := (joinA s.1 e, (if joinC s.1 e = true then s.2.1 + 1 else s.2.1), (if putN s.1 e ≠ 0 then s.2.2 + 1 else s.2.2))
def mrg (a : Ar) (l : List Ent) : Ar × Nat × Nat := l.foldl mstep (a, 0, 0)
theorem mrg_bd {a : Ar} (ha : a.bd) (l : List Ent) : (mrg a l).1.bd := by
  unfold mrg
  have : ∀ (l : List Ent) (s : Ar × Nat × Nat), s.1.bd → (l.foldl mstep s).1.bd := by
    intro l
    induction l with
    | nil => exact fun s h => h
    | cons e l ih => exact fun s h => ih (mstep s e) (joinA_bd e h)
  exact this l _ ha
theorem mrg_le (a : Ar) (l : List Ent) : (mrg a l).2.1 ≤ l.length ∧ (mrg a l).2.2 ≤ l.length := by
  unfold mrg
  have : ∀ (l : List Ent) (s : Ar × Nat × Nat), (l.foldl mstep s).2.1 ≤ s.2.1 + l.length ∧ (l.foldl mstep s).2.2 ≤ s.2.2 + l.length := by
    intro l
    induction l with
    | nil => exact fun s => ⟨Nat.le_refl _, Nat.le_refl _⟩
    | cons e l ih =>
      intro s
      have h := ih (mstep s e)
      simp only [mstep] at h
      simp only [List.foldl_cons, List.length_cons, mstep]
      refine ⟨Nat.le_trans h.1 ?_, Nat.le_trans h.2 ?_⟩
      · split <;> omega
      · split <;> omega
  have h := this l (a, 0, 0)
  simpa using h
theorem mrg_step {a : Ar} {l : List Ent} {i : Nat} {x : Ent} (hx : l[i]? = some x) : mrg a (l.take (i + 1)) = mstep (mrg a (l.take i)) x := by
  unfold mrg; rw [List.take_add_one, hx]; simp
theorem c_arena_Merge (a : Ar) (l : List Ent) (ha : a.bd) (hl : ∀ e ∈ l, e.bd) (hn : l.length ≤ 1000) : Fc Tryz.prog n_arena_Merge [a.sv, ents l] (.tup [(mrg a l).1.sv, iv (mrg a l).2.1, iv (mrg a l).2.2]) := by
  have hN : (l.map Ent.sv).length = l.length := List.length_map ..
  refine Fc.of_body tabOk q_arena_Merge (by kernel_rfl) ((blwL_cons (blw_ar 0 a) (blwL_one (blw_ents 0 l)))) ((by simp [blw, blwL, blw_ar, blw_iv])) ?_
  conv => whnf
  refine loopP2 tabOk (fun (i : Nat) (m : Ar × Nat × Nat) => i ≤ l.length ∧ mrg a (l.take i) = m)
    (fun i m => ⟨[(16, iv i), (15, iv (l.map Ent.sv).length), (14, ents l), (2, .loc 0 0), (4, .loc 1 0), (7, iv m.2.1), (8, iv m.2.2)], []⟩)
    (fun i m => ⟨2, [.c [iv m.1.cap, ents m.1.slots, ints m.1.index], .c [iv 0, .v (.slice none 0 0), .v (.slice none 0 0)]], []⟩)
    (fun i m => l.length - i) 0 (a, 0, 0) ⟨Nat.zero_le _, rfl⟩ (by repeat' constructor) (fun _ _ => rfl) ?_
  rintro i m ⟨hi, hm⟩
  conv => whnf
  refine dsp ?_ ?_ <;> intro hlt <;> conv => whnf
  · rw [hN] at hlt
    obtain ⟨x, hx⟩ : ∃ x, l[i]? = some x := ⟨_, List.getElem?_eq_getElem (by omega)⟩
    have hj := c_arena_Join m.1 x (by rw [← hm]; exact mrg_bd ha _) (hl x (List.mem_of_getElem? hx))
    have hs := mrg_step (a := a) hx
    have hle := mrg_le a (l.take i)
    have hle' : (l.take i).length = i := by simp; omega
    rw [hle'] at hle
    rw [hm] at hs hle
    obtain ⟨m1, m2, m3⟩ := m
    simp only [mstep] at hs hj hle
    repeat' (first
      | (refine bltG (by first | omega | (simp only [List.length_map] at *; omega)) ?_; conv => whnf)
      | (refine ndG (by assumption) ?_; conv => whnf)
      | (refine mulG ?_; conv => whnf)
      | (refine And.intro rfl ?_; conv => whnf)
      | (refine dsT (by assumption) ?_; conv => whnf)
      | (refine dsF (by assumption) ?_; conv => whnf)
      | (refine nsT (by assumption) ?_; conv => whnf)
      | (refine nsF (by assumption) ?_; conv => whnf)
      | (refine bsT (by assumption) ?_; conv => whnf)
      | (refine bsF (by assumption) ?_; conv => whnf)
      | (refine dsp ?_ ?_ <;> intro _ <;> conv => whnf)
      | (refine nsp ?_ ?_ <;> intro _ <;> conv => whnf)
      | (refine cnd_true (by assumption) ?_; conv => whnf)
      | (refine cnd_false (by assumption) ?_; conv => whnf)
      | (refine cnd_split ?_ ?_ <;> intro _ <;> conv => whnf)
      | (refine Cd.par tabOk (by kernel_rfl) (by kernel_rfl) ?_; conv => whnf)
      | (refine Fc.use (hj) ?_ ?_; (focus ((repeat' constructor); done)); conv => whnf)
      | (refine CallQ.of (hj) ?_ ?_; (focus ((repeat' constructor); done)); conv => whnf)
      | rfl
      | exact True.intro
      | (refine And.intro ?_ ?_ <;> conv => whnf))
    · refine ⟨i + 1, (joinA m1 x, m2 + 1, m3 + 1), ⟨by omega, by rw [hs, if_pos ‹_›, if_pos ‹_›]⟩, ?_, ⟨?_, rfl, ?_, ?_, rfl, ?_⟩⟩
      · first | omega | (simp only [List.length_map] at *; omega)
      · (repeat' constructor) <;> first | (refine ivW ?_ ?_ ?_ <;> first | omega | (dsimp only; omega))
      · (repeat' (first | constructor))
      · repeat' constructor
      · first | exact .inl rfl | exact .inr ⟨by simp [blwE, blw, blwL, blwB, blwX, blwR, blw_iv, blw_ints, blw_ents, blw_ent, blw_val, blw_ar, blwL_map (blw_ent _), blwL_map (blw_iv _), sb, ss] <;> rfl, rfl, by simp [blwE, blw, blwL, blwB, blwX, blwR, blw_iv, blw_ints, blw_ents, blw_ent, blw_val, blw_ar, blwL_map (blw_ent _), blwL_map (blw_iv _), sb, ss] <;> rfl, by simp [blwE, blw, blwL, blwB, blwX, blwR, blw_iv, blw_ints, blw_ents, blw_ent, blw_val, blw_ar, blwL_map (blw_ent _), blwL_map (blw_iv _), sb, ss]⟩
    · refine ⟨i + 1, (joinA m1 x, m2 + 1, m3), ⟨by omega, by rw [hs, if_pos ‹_›, if_neg (by simpa using ‹_›)]⟩, ?_, ⟨?_, rfl, ?_, ?_, rfl, ?_⟩⟩
      · first | omega | (simp only [List.length_map] at *; omega)
      · (repeat' constructor) <;> first | (refine ivW ?_ ?_ ?_ <;> first | omega | (dsimp only; omega))
      · (repeat' (first | constructor))
      · repeat' constructor
      · first | exact .inl rfl | exact .inr ⟨by simp [blwE, blw, blwL, blwB, blwX, blwR, blw_iv, blw_ints, blw_ents, blw_ent, blw_val, blw_ar, blwL_map (blw_ent _), blwL_map (blw_iv _), sb, ss] <;> rfl, rfl, by simp [blwE, blw, blwL, blwB, blwX, blwR, blw_iv, blw_ints, blw_ents, blw_ent, blw_val, blw_ar, blwL_map (blw_ent _), blwL_map (blw_iv _), sb, ss] <;> rfl, by simp [blwE, blw, blwL, blwB, blwX, blwR, blw_iv, blw_ints, blw_ents, blw_ent, blw_val, blw_ar, blwL_map (blw_ent _), blwL_map (blw_iv _), sb, ss]⟩
    · refine ⟨i + 1, (joinA m1 x, m2, m3 + 1), ⟨by omega, by rw [hs, if_neg (by simp [*]), if_pos ‹_›]⟩, ?_, ⟨?_, rfl, ?_, ?_, rfl, ?_⟩⟩
      · first | omega | (simp only [List.length_map] at *; omega)
      · (repeat' constructor) <;> first | (refine ivW ?_ ?_ ?_ <;> first | omega | (dsimp only; omega))
      · (repeat' (first | constructor))
      · repeat' constructor
      · first | exact .inl rfl | exact .inr ⟨by simp [blwE, blw, blwL, blwB, blwX, blwR, blw_iv, blw_ints, blw_ents, blw_ent, blw_val, blw_ar, blwL_map (blw_ent _), blwL_map (blw_iv _), sb, ss] <;> rfl, rfl, by simp [blwE, blw, blwL, blwB, blwX, blwR, blw_iv, blw_ints, blw_ents, blw_ent, blw_val, blw_ar, blwL_map (blw_ent _), blwL_map (blw_iv _), sb, ss] <;> rfl, by simp [blwE, blw, blwL, blwB, blwX, blwR, blw_iv, blw_ints, blw_ents, blw_ent, blw_val, blw_ar, blwL_map (blw_ent _), blwL_map (blw_iv _), sb, ss]⟩
    · refine ⟨i + 1, (joinA m1 x, m2, m3), ⟨by omega, by rw [hs, if_neg (by simp [*]), if_neg (by simpa using ‹_›)]⟩, ?_, ⟨?_, rfl, ?_, ?_, rfl, ?_⟩⟩
      · first | omega | (simp only [List.length_map] at *; omega)
      · (repeat' constructor) <;> first | (refine ivW ?_ ?_ ?_ <;> first | omega | (dsimp only; omega))
      · (repeat' (first | constructor))
      · repeat' constructor
      · first | exact .inl rfl | exact .inr ⟨by simp [blwE, blw, blwL, blwB, blwX, blwR, blw_iv, blw_ints, blw_ents, blw_ent, blw_val, blw_ar, blwL_map (blw_ent _), blwL_map (blw_iv _), sb, ss] <;> rfl, rfl, by simp [blwE, blw, blwL, blwB, blwX, blwR, blw_iv, blw_ints, blw_ents, blw_ent, blw_val, blw_ar, blwL_map (blw_ent _), blwL_map (blw_iv _), sb, ss] <;> rfl, by simp [blwE, blw, blwL, blwB, blwX, blwR, blw_iv, blw_ints, blw_ents, blw_ent, blw_val, blw_ar, blwL_map (blw_ent _), blwL_map (blw_iv _), sb, ss]⟩
  · have hie : i = l.length := by rw [hN] at hlt; omega
    subst hie
    rw [List.take_of_length_le (Nat.le_refl _)] at hm
    rw [hm]
    repeat' (first
      | (refine bltG (by first | omega | (simp only [List.length_map] at *; omega)) ?_; conv => whnf)
      | (refine ndG (by assumption) ?_; conv => whnf)
      | (refine mulG ?_; conv => whnf)
      | (refine And.intro rfl ?_; conv => whnf)
      | (refine dsT (by assumption) ?_; conv => whnf)
      | (refine dsF (by assumption) ?_; conv => whnf)
      | (refine nsT (by assumption) ?_; conv => whnf)
      | (refine nsF (by assumption) ?_; conv => whnf)
      | (refine bsT (by assumption) ?_; conv => whnf)
      | (refine bsF (by assumption) ?_; conv => whnf)
      | (refine dsp ?_ ?_ <;> intro _ <;> conv => whnf)
      | (refine nsp ?_ ?_ <;> intro _ <;> conv => whnf)
      | (refine cnd_true (by assumption) ?_; conv => whnf)
      | (refine cnd_false (by assumption) ?_; conv => whnf)
      | (refine cnd_split ?_ ?_ <;> intro _ <;> conv => whnf)
      | (refine Cd.par tabOk (by kernel_rfl) (by kernel_rfl) ?_; conv => whnf)
      | rfl
      | exact True.intro
      | (refine And.intro ?_ ?_ <;> conv => whnf))
end Go.Proofs.YtmjpidjdbofdjaaGreat

