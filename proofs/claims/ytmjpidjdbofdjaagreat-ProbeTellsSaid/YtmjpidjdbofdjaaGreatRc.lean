import Derived.Test.YtmjpidjdbofdjaaGreatRb
import Derived.Test.YtmjpidjdbofdjaaGreatYP
/- Contracts of the references: arenas. -/
set_option linter.unusedVariables false
set_option linter.unusedSimpArgs false
set_option maxRecDepth 100000
set_option maxHeartbeats 1600000
namespace Go.Proofs.YtmjpidjdbofdjaaGreat
open Go Go.Sy
instance (l : List Ent) : Decidable (dist l) := by unfold dist; infer_instance
theorem dist_snoc {l : List Ent} {i : Nat} {x : Ent} (hx : l[i]? = some x) (h : dist (l.take i)) (hn : ∀ m, m < i → ∀ y, l[m]? = some y → ¬ named x y) : dist (l.take (i + 1)) := by
  rw [List.take_add_one, hx]
  unfold dist at *
  rw [List.pairwise_append]
  refine ⟨h, by simp, fun a ha b hb => ?_⟩
  simp only [Option.toList_some, List.mem_singleton] at hb
  subst hb
  obtain ⟨m, hm, rfl⟩ := List.mem_iff_getElem.1 ha
  rw [List.length_take] at hm
  rw [List.getElem_take]
  exact fun hq => hn m (by omega) _ (List.getElem?_eq_getElem (by omega)) hq.symm
theorem r_slots (l : List Ent) (hl : l.length < 2 ^ 40) (hb : ∀ e ∈ l, e.bd) : Fc Tryz.prog n_ouroborosref08_slots [ents l] (sb (decide ((∀ e ∈ l, entOk e) ∧ dist l))) := by
  refine Fc.of_body tabOk q_ouroborosref08_slots (by kernel_rfl) ((blwL_one (blw_ents 0 l))) (rfl) ?_
  conv => whnf
  refine loopP tabOk (fun i : Nat => i ≤ l.length ∧ (∀ e ∈ l.take i, entOk e) ∧ dist (l.take i)) (fun i => ⟨[(3, iv i), (0, ents l)], []⟩) (fun _ => ⟨0, [], []⟩) (fun i => l.length - i) 0 ⟨Nat.zero_le _, by simp, by simp [dist]⟩ (by repeat' constructor) (fun _ => rfl) ?_
  rintro i ⟨hi, hok, hd⟩
  conv => whnf
  refine dsp ?_ ?_ <;> intro hlt <;> conv => whnf
  · simp only [List.length_map] at hlt
    obtain ⟨x, hx⟩ : ∃ x, l[i]? = some x := ⟨_, List.getElem?_eq_getElem (by omega)⟩
    have hxm := List.mem_of_getElem? hx
    have hc := r_ent_Check x (hb x hxm)
    by_cases hxo : entOk x
    · rw [decide_eq_true hxo] at hc
      have hok' : ∀ e ∈ l.take (i + 1), entOk e := by
        rw [List.take_add_one, hx]
        intro e he
        rcases List.mem_append.1 he with he | he
        · exact hok e he
        · simp at he; subst he; exact hxo
      repeat' (first
        | (refine bltG (by first | omega | (simp only [List.length_map] at *; omega)) ?_; conv => whnf)
        | (refine ndG (by assumption) ?_; conv => whnf)
        | (refine mulG ?_; conv => whnf)
        | (refine And.intro rfl ?_; conv => whnf)
        | (refine dsT (by assumption) ?_; conv => whnf)
        | (refine dsF (by assumption) ?_; conv => whnf)
        | (refine nsT (by assumption) ?_; conv => whnf)
        | (refine nsF (by assumption) ?_; conv => whnf)
        | (refine bsT (by assumption) ?_; conv => whnf)
        | (refine bsF (by assumption) ?_; conv => whnf)
        | (refine dsp ?_ ?_ <;> intro _ <;> conv => whnf)
        | (refine nsp ?_ ?_ <;> intro _ <;> conv => whnf)
        | (refine cnd_true (by assumption) ?_; conv => whnf)
        | (refine cnd_false (by assumption) ?_; conv => whnf)
        | (refine cnd_split ?_ ?_ <;> intro _ <;> conv => whnf)
        | (refine Cd.par tabOk (by kernel_rfl) (by kernel_rfl) ?_; conv => whnf)
        | (refine Fc.use (hc) ?_ ?_; (focus ((repeat' constructor); done)); conv => whnf)
        | (refine CallQ.of (hc) ?_ ?_; (focus ((repeat' constructor); done)); conv => whnf))
      refine loopP tabOk (fun k : Nat => k ≤ i ∧ ∀ m, m < k → ∀ y, l[m]? = some y → ¬ named x y) (fun k => ⟨[(4, iv k), (3, iv i), (0, ents l)], []⟩) (fun _ => ⟨0, [], []⟩) (fun k => i - k) 0 ⟨Nat.zero_le _, fun m hm => absurd hm (by omega)⟩ (by repeat' constructor) (fun _ => rfl) ?_
      rintro k ⟨hk, hno⟩
      conv => whnf
      refine dsp ?_ ?_ <;> intro hki <;> conv => whnf
      · obtain ⟨y, hy⟩ : ∃ y, l[k]? = some y := ⟨_, List.getElem?_eq_getElem (by omega)⟩
        have hnm := r_Name x y
        by_cases hxy : named x y
        · rw [decide_eq_true hxy] at hnm
          have hbad : ¬ ((∀ e ∈ l, entOk e) ∧ dist l) := fun hq => by
            have hkl := (List.getElem?_eq_some_iff.1 hy).1
            have hil := (List.getElem?_eq_some_iff.1 hx).1
            have e1 := (List.getElem?_eq_some_iff.1 hy).2
            have e2 := (List.getElem?_eq_some_iff.1 hx).2
            have := List.pairwise_iff_getElem.1 hq.2 k i hkl hil (by omega)
            rw [e1, e2] at this
            exact this hxy.symm
          repeat' (first
            | (refine bltG (by first | omega | (simp only [List.length_map] at *; omega)) ?_; conv => whnf)
            | (refine ndG (by assumption) ?_; conv => whnf)
            | (refine mulG ?_; conv => whnf)
            | (refine And.intro rfl ?_; conv => whnf)
            | (refine dsT (by assumption) ?_; conv => whnf)
            | (refine dsF (by assumption) ?_; conv => whnf)
            | (refine nsT (by assumption) ?_; conv => whnf)
            | (refine nsF (by assumption) ?_; conv => whnf)
            | (refine bsT (by assumption) ?_; conv => whnf)
            | (refine bsF (by assumption) ?_; conv => whnf)
            | (refine dsp ?_ ?_ <;> intro _ <;> conv => whnf)
            | (refine nsp ?_ ?_ <;> intro _ <;> conv => whnf)
            | (refine cnd_true (by assumption) ?_; conv => whnf)
            | (refine cnd_false (by assumption) ?_; conv => whnf)
            | (refine cnd_split ?_ ?_ <;> intro _ <;> conv => whnf)
            | (refine Cd.par tabOk (by kernel_rfl) (by kernel_rfl) ?_; conv => whnf)
            | (refine Fc.use (hnm) ?_ ?_; (focus ((repeat' constructor); done)); conv => whnf)
            | (refine CallQ.of (hnm) ?_ ?_; (focus ((repeat' constructor); done)); conv => whnf))
          exact sbF hbad
        · rw [decide_eq_false hxy] at hnm
          have hno' : ∀ m, m < k + 1 → ∀ y, l[m]? = some y → ¬ named x y := fun m hm z hz => by
            rcases Nat.lt_or_ge m k with h | h
            · exact hno m h z hz
            · obtain rfl : m = k := by omega
              rw [hy] at hz; injection hz with hz; exact hz ▸ hxy
          repeat' (first
            | (refine bltG (by first | omega | (simp only [List.length_map] at *; omega)) ?_; conv => whnf)
            | (refine ndG (by assumption) ?_; conv => whnf)
            | (refine mulG ?_; conv => whnf)
            | (refine And.intro rfl ?_; conv => whnf)
            | (refine dsT (by assumption) ?_; conv => whnf)
            | (refine dsF (by assumption) ?_; conv => whnf)
            | (refine nsT (by assumption) ?_; conv => whnf)
            | (refine nsF (by assumption) ?_; conv => whnf)
            | (refine bsT (by assumption) ?_; conv => whnf)
            | (refine bsF (by assumption) ?_; conv => whnf)
            | (refine dsp ?_ ?_ <;> intro _ <;> conv => whnf)
            | (refine nsp ?_ ?_ <;> intro _ <;> conv => whnf)
            | (refine cnd_true (by assumption) ?_; conv => whnf)
            | (refine cnd_false (by assumption) ?_; conv => whnf)
            | (refine cnd_split ?_ ?_ <;> intro _ <;> conv => whnf)
            | (refine Cd.par tabOk (by kernel_rfl) (by kernel_rfl) ?_; conv => whnf)
            | (refine Fc.use (hnm) ?_ ?_; (focus ((repeat' constructor); done)); conv => whnf)
            | (refine CallQ.of (hnm) ?_ ?_; (focus ((repeat' constructor); done)); conv => whnf))
          refine ⟨k + 1, ⟨by omega, hno'⟩, ?_, ?_⟩
          · first | omega | (simp only [List.length_map] at *; omega)
          · (repeat' constructor) <;> first | (refine ivW ?_ ?_ ?_ <;> first | omega | (dsimp only; omega))
      · obtain rfl : k = i := by omega
        have hd' := dist_snoc hx hd hno
        repeat' (first
          | (refine bltG (by first | omega | (simp only [List.length_map] at *; omega)) ?_; conv => whnf)
          | (refine ndG (by assumption) ?_; conv => whnf)
          | (refine mulG ?_; conv => whnf)
          | (refine And.intro rfl ?_; conv => whnf)
          | (refine dsT (by assumption) ?_; conv => whnf)
          | (refine dsF (by assumption) ?_; conv => whnf)
          | (refine nsT (by assumption) ?_; conv => whnf)
          | (refine nsF (by assumption) ?_; conv => whnf)
          | (refine bsT (by assumption) ?_; conv => whnf)
          | (refine bsF (by assumption) ?_; conv => whnf)
          | (refine dsp ?_ ?_ <;> intro _ <;> conv => whnf)
          | (refine nsp ?_ ?_ <;> intro _ <;> conv => whnf)
          | (refine cnd_true (by assumption) ?_; conv => whnf)
          | (refine cnd_false (by assumption) ?_; conv => whnf)
          | (refine cnd_split ?_ ?_ <;> intro _ <;> conv => whnf)
          | (refine Cd.par tabOk (by kernel_rfl) (by kernel_rfl) ?_; conv => whnf))
        refine ⟨k + 1, ⟨by omega, hok', hd'⟩, ?_, ?_⟩
        · first | omega | (simp only [List.length_map] at *; omega)
        · (repeat' constructor) <;> first | (refine ivW ?_ ?_ ?_ <;> first | omega | (dsimp only; omega))
    · rw [decide_eq_false hxo] at hc
      have hbad : ¬ ((∀ e ∈ l, entOk e) ∧ dist l) := fun hq => hxo (hq.1 x hxm)
      repeat' (first
        | (refine bltG (by first | omega | (simp only [List.length_map] at *; omega)) ?_; conv => whnf)
        | (refine ndG (by assumption) ?_; conv => whnf)
        | (refine mulG ?_; conv => whnf)
        | (refine And.intro rfl ?_; conv => whnf)
        | (refine dsT (by assumption) ?_; conv => whnf)
        | (refine dsF (by assumption) ?_; conv => whnf)
        | (refine nsT (by assumption) ?_; conv => whnf)
        | (refine nsF (by assumption) ?_; conv => whnf)
        | (refine bsT (by assumption) ?_; conv => whnf)
        | (refine bsF (by assumption) ?_; conv => whnf)
        | (refine dsp ?_ ?_ <;> intro _ <;> conv => whnf)
        | (refine nsp ?_ ?_ <;> intro _ <;> conv => whnf)
        | (refine cnd_true (by assumption) ?_; conv => whnf)
        | (refine cnd_false (by assumption) ?_; conv => whnf)
        | (refine cnd_split ?_ ?_ <;> intro _ <;> conv => whnf)
        | (refine Cd.par tabOk (by kernel_rfl) (by kernel_rfl) ?_; conv => whnf)
        | (refine Fc.use (hc) ?_ ?_; (focus ((repeat' constructor); done)); conv => whnf)
        | (refine CallQ.of (hc) ?_ ?_; (focus ((repeat' constructor); done)); conv => whnf))
      exact sbF hbad
  · have hie : i = l.length := by simp only [List.length_map] at hlt; omega
    subst hie
    rw [List.take_of_length_le (Nat.le_refl _)] at hok hd
    repeat' (first
      | (refine bltG (by first | omega | (simp only [List.length_map] at *; omega)) ?_; conv => whnf)
      | (refine ndG (by assumption) ?_; conv => whnf)
      | (refine mulG ?_; conv => whnf)
      | (refine And.intro rfl ?_; conv => whnf)
      | (refine dsT (by assumption) ?_; conv => whnf)
      | (refine dsF (by assumption) ?_; conv => whnf)
      | (refine nsT (by assumption) ?_; conv => whnf)
      | (refine nsF (by assumption) ?_; conv => whnf)
      | (refine bsT (by assumption) ?_; conv => whnf)
      | (refine bsF (by assumption) ?_; conv => whnf)
      | (refine dsp ?_ ?_ <;> intro _ <;> conv => whnf)
      | (refine nsp ?_ ?_ <;> intro _ <;> conv => whnf)
      | (refine cnd_true (by assumption) ?_; conv => whnf)
      | (refine cnd_false (by assumption) ?_; conv => whnf)
      | (refine cnd_split ?_ ?_ <;> intro _ <;> conv => whnf)
      | (refine Cd.par tabOk (by kernel_rfl) (by kernel_rfl) ?_; conv => whnf))
    exact sbT ⟨hok, hd⟩
theorem idx_srt {l : List Ent} (h : dist l) : (idx l).Pairwise fun a b => ltI l a b = true := by
  have htot : (List.range l.length).Pairwise fun a b => ltI l a b = true ∨ ltI l b a = true := by
    rw [List.pairwise_iff_getElem]
    intro i j hi hj hij
    simp only [List.length_range] at hi hj
    simp only [List.getElem_range]
    have e1 : l[i]? = some l[i] := List.getElem?_eq_getElem hi
    have e2 : l[j]? = some l[j] := List.getElem?_eq_getElem hj
    rw [ltI_at e1 e2, ltI_at e2 e1]
    exact lt_tot (List.pairwise_iff_getElem.1 h i j hi hj hij)
  obtain ⟨r, h1, h2, h3, h4⟩ := iso_srt (lt := ltI l) (fun _ _ _ => ltI_tr) (List.range l.length) htot l.length (by simp)
  have he : idx l = r.reverse := by unfold idx; rw [h2, List.drop_of_length_le (by simp), List.append_nil]
  rw [he, List.pairwise_reverse]
  exact h4
theorem ltI_asym {l : List Ent} {a b : Nat} (h : ltI l a b = true) (k : ltI l b a = true) : False := by
  have := ltI_tr h k
  unfold ltI at this
  cases hx : l[a]? with
  | none => simp only [hx] at this; cases this
  | some x => simp only [hx] at this; rw [lt_irr x x (named.refl x)] at this; cases this
theorem srt_uniq {lt : Nat → Nat → Bool} (hasym : ∀ a b, lt a b = true → lt b a = true → False) : ∀ {l m : List Nat}, l.Perm m → (l.Pairwise fun a b => lt a b = true) → (m.Pairwise fun a b => lt a b = true) → l = m
  | [], m, h, _, _ => h.nil_eq
  | x :: r, [], h, _, _ => absurd h.length_eq (by simp)
  | x :: r, y :: s, h, h1, h2 => by
    rw [List.pairwise_cons] at h1 h2
    by_cases hxy : x = y
    · subst hxy
      rw [srt_uniq hasym (List.Perm.cons_inv h) h1.2 h2.2]
    · have m1 : x ∈ s := by
        rcases List.mem_cons.1 (h.mem_iff.1 (List.mem_cons_self ..)) with q | q
        · exact absurd q hxy
        · exact q
      have m2 : y ∈ r := by
        rcases List.mem_cons.1 (h.mem_iff.2 (List.mem_cons_self ..)) with q | q
        · exact absurd q.symm hxy
        · exact q
      exact absurd (hasym _ _ (h1.1 y m2) (h2.1 x m1)) id
/-- A place among those in order. -/
theorem ins_ok {l : List Ent} {i k : Nat} {out : List Nat} (hd : dist l) (hi : i < l.length) (hp : out.Perm (List.range i)) (hs : out.Pairwise fun a b => ltI l a b = true) (hk : k ≤ out.length)
    (hlo : ∀ m y, m < k → out[m]? = some y → ltI l y i = true) (hhi : ∀ y, out[k]? = some y → ltI l y i = false) :
    (out.take k ++ i :: out.drop k).Perm (List.range (i + 1)) ∧ (out.take k ++ i :: out.drop k).Pairwise fun a b => ltI l a b = true := by
  constructor
  · rw [List.range_succ]
    refine List.perm_middle.trans ?_
    rw [List.take_append_drop]
    exact (hp.cons i).trans (List.perm_append_singleton i (List.range i)).symm
  · have hlt : ∀ y ∈ out, y < i := fun y hy => by have := hp.mem_iff.1 hy; simpa using this
    have hgt : ∀ y ∈ out.drop k, ltI l i y = true := by
      cases hdk : out.drop k with
      | nil => intro y hy; cases hy
      | cons y0 r0 =>
        have h0 : out[k]? = some y0 := by
          have := congrArg (fun q : List Nat => q[0]?) hdk
          simpa [List.getElem?_drop] using this
        have hy0 : y0 ∈ out := List.mem_of_getElem? h0
        have hb : y0 < i := hlt y0 hy0
        have e1 : l[y0]? = some l[y0] := List.getElem?_eq_getElem (by omega)
        have e2 : l[i]? = some l[i] := List.getElem?_eq_getElem hi
        have hl0 := hhi y0 h0
        have hg0 : ltI l i y0 = true := by
          rw [ltI_at e1 e2] at hl0
          rw [ltI_at e2 e1]
          rcases lt_tot (List.pairwise_iff_getElem.1 hd y0 i (by omega) hi hb) with q | q
          · rw [hl0] at q; cases q
          · exact q
        have hs' : (out.drop k).Pairwise fun a b => ltI l a b = true := List.Pairwise.sublist (List.drop_sublist ..) hs
        rw [hdk, List.pairwise_cons] at hs'
        intro y hy
        rcases List.mem_cons.1 hy with rfl | hy
        · exact hg0
        · exact ltI_tr hg0 (hs'.1 y hy)
    have hlo' : ∀ y ∈ out.take k, ltI l y i = true := fun y hy => by
      obtain ⟨m, hm, rfl⟩ := List.mem_iff_getElem.1 hy
      rw [List.length_take] at hm
      rw [List.getElem_take]
      exact hlo m _ (by omega) (List.getElem?_eq_getElem (by omega))
    rw [List.pairwise_append]
    refine ⟨List.Pairwise.sublist (List.take_sublist ..) hs, ?_, fun a ha b hb => ?_⟩
    · rw [List.pairwise_cons]
      exact ⟨hgt, List.Pairwise.sublist (List.drop_sublist ..) hs⟩
    · rcases List.mem_cons.1 hb with rfl | hb
      · exact hlo' a ha
      · exact ltI_tr (hlo' a ha) (hgt b hb)
theorem lfI {α : Type} {l : List α} {k : List α → Prop} (h : k l) : lf l k := by rw [lf_eq]; exact h
theorem r_index (l : List Ent) (hl : l.length ≤ 8) (hd : dist l) : Fc Tryz.prog n_ouroborosref08_index [ents l] (.lst false 1 (nats (idx l))) := by
  have hmx : 4096 ≤ maxLen := by decide
  refine Fc.of_body tabOk q_ouroborosref08_index (by kernel_rfl) ((blwL_one (blw_ents 0 l))) (by (rw [blw]; exact blwL_map (f := nv) (fun k => rfl) _)) ?_
  conv => whnf
  refine loopPU tabOk (fun q : Nat × List Nat => q.1 ≤ l.length ∧ q.2.Perm (List.range q.1) ∧ q.2.Pairwise fun a b => ltI l a b = true)
    (fun q => ⟨[(4, iv q.1), (3, .lst false 1 (nats q.2)), (0, ents l)], []⟩) (fun _ => ⟨0, [], []⟩) (fun q => l.length - q.1) (0, []) ⟨Nat.zero_le _, by simp, by simp⟩ (by repeat' constructor) (fun _ => rfl) ?_
  rintro ⟨i, out⟩ ⟨hi, hp, hs⟩
  conv => whnf
  refine dsp ?_ ?_ <;> intro hlt <;> conv => whnf
  · simp only [List.length_map] at hlt
    obtain ⟨x, hx⟩ : ∃ x, l[i]? = some x := ⟨_, List.getElem?_eq_getElem (by omega)⟩
    have hN : (nats out).length = out.length := List.length_map ..
    refine loopP tabOk (fun k : Nat => k ≤ out.length ∧ ∀ m y, m < k → out[m]? = some y → ltI l y i = true)
      (fun k => ⟨[(5, iv k), (4, iv i), (3, .lst false 1 (nats out)), (0, ents l)], []⟩) (fun _ => ⟨0, [], []⟩) (fun k => out.length - k) 0 ⟨Nat.zero_le _, fun m y hm => absurd hm (by omega)⟩ (by repeat' constructor) (fun _ => rfl) ?_
    rintro k ⟨hk, hlo⟩
    have hol : out.length ≤ 8 := by have := hp.length_eq; simp only [List.length_range] at this; simp only at hi; omega
    have hT : (List.take (k - 0) (List.drop 0 (nats out))).length ≤ 4096 := by simp only [List.length_take, List.length_drop]; omega
    have hil : i < l.length := by omega
    have hE : List.take (k - 0) (List.drop 0 (nats out)) ++ [iv i] ++ List.take ((nats out).length - k) (List.drop k (nats out)) = nats (out.take k ++ i :: out.drop k) := by
      rw [Nat.sub_zero, List.drop_zero, List.take_of_length_le (l := List.drop k (nats out)) (by simp)]
      simp [nats, nv, List.map_take, List.map_drop]
    by_cases hko : k < out.length
    · obtain ⟨y, hy⟩ : ∃ y, out[k]? = some y := ⟨_, List.getElem?_eq_getElem hko⟩
      have hyi : y < i := by have := hp.mem_iff.1 (List.mem_of_getElem? hy); simpa using this
      have hyl : y < l.length := by simp only at hi; omega
      obtain ⟨ly, hly⟩ : ∃ z, l[y]? = some z := ⟨_, List.getElem?_eq_getElem hyl⟩
      have hle := r_Less ly x
      have hle2 := ltI_at hly hx
      have hko' : (k : Int) < ((nats out).length : Int) := by rw [hN]; omega
      by_cases hb : entLt ly x = true
      · rw [hb] at hle hle2
        have hlo' : ∀ m y, m < k + 1 → out[m]? = some y → ltI l y i = true := fun m z hm hz => by
          rcases Nat.lt_or_ge m k with h | h
          · exact hlo m z h hz
          · obtain rfl : m = k := by omega
            rw [hy] at hz; injection hz with hz; exact hz ▸ hle2
        conv => whnf
        repeat' (first
          | (refine bltG (by first | omega | (simp only [List.length_map] at *; omega)) ?_; conv => whnf)
          | (refine ndG (by assumption) ?_; conv => whnf)
          | (refine mulG ?_; conv => whnf)
          | (refine And.intro rfl ?_; conv => whnf)
          | (refine dsT (by assumption) ?_; conv => whnf)
          | (refine dsF (by assumption) ?_; conv => whnf)
          | (refine nsT (by assumption) ?_; conv => whnf)
          | (refine nsF (by assumption) ?_; conv => whnf)
          | (refine bsT (by assumption) ?_; conv => whnf)
          | (refine bsF (by assumption) ?_; conv => whnf)
          | (refine dsp ?_ ?_ <;> intro _ <;> conv => whnf)
          | (refine nsp ?_ ?_ <;> intro _ <;> conv => whnf)
          | (refine cnd_true (by assumption) ?_; conv => whnf)
          | (refine cnd_false (by assumption) ?_; conv => whnf)
          | (refine cnd_split ?_ ?_ <;> intro _ <;> conv => whnf)
          | (refine Cd.par tabOk (by kernel_rfl) (by kernel_rfl) ?_; conv => whnf)
          | (refine Fc.use (hle) ?_ ?_; (focus ((repeat' constructor); done)); conv => whnf)
          | (refine CallQ.of (hle) ?_ ?_; (focus ((repeat' constructor); done)); conv => whnf))
        refine ⟨k + 1, ⟨by omega, hlo'⟩, ?_, ?_⟩
        · first | omega | (simp only [List.length_map] at *; omega)
        · (repeat' constructor) <;> first | (refine ivW ?_ ?_ ?_ <;> first | omega | (dsimp only; omega))
      · have hb' : entLt ly x = false := by simpa using hb
        rw [hb'] at hle hle2
        have hP := ins_ok (k := k) hd hil hp hs hk (fun m y hm hy => hlo m y hm hy) (fun z hz => by rw [hy] at hz; injection hz with hz; exact hz ▸ hle2)
        conv => whnf
        repeat' (first
          | (refine bltG (by first | omega | (simp only [List.length_map] at *; omega)) ?_; conv => whnf)
          | (refine ndG (by assumption) ?_; conv => whnf)
          | (refine mulG ?_; conv => whnf)
          | (refine And.intro rfl ?_; conv => whnf)
          | (refine dsT (by assumption) ?_; conv => whnf)
          | (refine dsF (by assumption) ?_; conv => whnf)
          | (refine nsT (by assumption) ?_; conv => whnf)
          | (refine nsF (by assumption) ?_; conv => whnf)
          | (refine bsT (by assumption) ?_; conv => whnf)
          | (refine bsF (by assumption) ?_; conv => whnf)
          | (refine dsp ?_ ?_ <;> intro _ <;> conv => whnf)
          | (refine nsp ?_ ?_ <;> intro _ <;> conv => whnf)
          | (refine cnd_true (by assumption) ?_; conv => whnf)
          | (refine cnd_false (by assumption) ?_; conv => whnf)
          | (refine cnd_split ?_ ?_ <;> intro _ <;> conv => whnf)
          | (refine Cd.par tabOk (by kernel_rfl) (by kernel_rfl) ?_; conv => whnf)
          | (refine Fc.use (hle) ?_ ?_; (focus ((repeat' constructor); done)); conv => whnf)
          | (refine CallQ.of (hle) ?_ ?_; (focus ((repeat' constructor); done)); conv => whnf))
        refine And.intro ⟨?_, ?_⟩ fun A1 c1 hv1 => ?_
        · refine Nat.le_trans (?_ : _ ≤ 4096) hmx
          simp only [List.length_take, List.length_drop, List.length_cons, List.length_nil, hN]; omega
        · refine Nat.le_trans (Nat.mul_le_mul_right _ (?_ : _ ≤ 4096)) (by decide)
          simp only [List.length_take, List.length_drop, List.length_cons, List.length_nil, hN]; omega
        conv => whnf
        repeat' (first
          | (refine bltG (by first | omega | (simp only [List.length_map] at *; omega)) ?_; conv => whnf)
          | (refine ndG (by assumption) ?_; conv => whnf)
          | (refine mulG ?_; conv => whnf)
          | (refine And.intro rfl ?_; conv => whnf)
          | (refine dsT (by assumption) ?_; conv => whnf)
          | (refine dsF (by assumption) ?_; conv => whnf)
          | (refine nsT (by assumption) ?_; conv => whnf)
          | (refine nsF (by assumption) ?_; conv => whnf)
          | (refine bsT (by assumption) ?_; conv => whnf)
          | (refine bsF (by assumption) ?_; conv => whnf)
          | (refine dsp ?_ ?_ <;> intro _ <;> conv => whnf)
          | (refine nsp ?_ ?_ <;> intro _ <;> conv => whnf)
          | (refine cnd_true (by assumption) ?_; conv => whnf)
          | (refine cnd_false (by assumption) ?_; conv => whnf)
          | (refine cnd_split ?_ ?_ <;> intro _ <;> conv => whnf)
          | (refine Cd.par tabOk (by kernel_rfl) (by kernel_rfl) ?_; conv => whnf)
          | rfl
          | exact True.intro
          | (refine And.intro ?_ ?_ <;> conv => whnf))
        · refine Nat.le_trans (?_ : _ ≤ 4096) hmx
          simp only [List.length_take, List.length_drop, List.length_cons, List.length_nil, hN]; omega
        · refine Nat.le_trans (Nat.mul_le_mul_right _ (?_ : _ ≤ 4096)) (by decide)
          simp only [List.length_take, List.length_drop, List.length_cons, List.length_nil, hN]; omega
        intro A2 c2 hv2
        refine lfI ?_
        conv => whnf
        repeat' (first
          | (refine bltG (by first | omega | (simp only [List.length_map] at *; omega)) ?_; conv => whnf)
          | (refine ndG (by assumption) ?_; conv => whnf)
          | (refine mulG ?_; conv => whnf)
          | (refine And.intro rfl ?_; conv => whnf)
          | (refine dsT (by assumption) ?_; conv => whnf)
          | (refine dsF (by assumption) ?_; conv => whnf)
          | (refine nsT (by assumption) ?_; conv => whnf)
          | (refine nsF (by assumption) ?_; conv => whnf)
          | (refine bsT (by assumption) ?_; conv => whnf)
          | (refine bsF (by assumption) ?_; conv => whnf)
          | (refine dsp ?_ ?_ <;> intro _ <;> conv => whnf)
          | (refine nsp ?_ ?_ <;> intro _ <;> conv => whnf)
          | (refine cnd_true (by assumption) ?_; conv => whnf)
          | (refine cnd_false (by assumption) ?_; conv => whnf)
          | (refine cnd_split ?_ ?_ <;> intro _ <;> conv => whnf)
          | (refine Cd.par tabOk (by kernel_rfl) (by kernel_rfl) ?_; conv => whnf)
          | rfl
          | exact True.intro
          | (refine And.intro ?_ ?_ <;> conv => whnf))
        · refine Nat.le_trans (?_ : _ ≤ 4096) hmx
          simp only [List.length_take, List.length_drop, List.length_cons, List.length_nil, hN]; omega
        · refine Nat.le_trans (Nat.mul_le_mul_right _ (?_ : _ ≤ 4096)) (by decide)
          simp only [List.length_take, List.length_drop, List.length_cons, List.length_nil, hN]; omega
        intro A3 c3 hv3
        refine lfI ?_
        conv => whnf
        repeat' (first
          | (refine bltG (by first | omega | (simp only [List.length_map] at *; omega)) ?_; conv => whnf)
          | (refine ndG (by assumption) ?_; conv => whnf)
          | (refine mulG ?_; conv => whnf)
          | (refine And.intro rfl ?_; conv => whnf)
          | (refine dsT (by assumption) ?_; conv => whnf)
          | (refine dsF (by assumption) ?_; conv => whnf)
          | (refine nsT (by assumption) ?_; conv => whnf)
          | (refine nsF (by assumption) ?_; conv => whnf)
          | (refine bsT (by assumption) ?_; conv => whnf)
          | (refine bsF (by assumption) ?_; conv => whnf)
          | (refine dsp ?_ ?_ <;> intro _ <;> conv => whnf)
          | (refine nsp ?_ ?_ <;> intro _ <;> conv => whnf)
          | (refine cnd_true (by assumption) ?_; conv => whnf)
          | (refine cnd_false (by assumption) ?_; conv => whnf)
          | (refine cnd_split ?_ ?_ <;> intro _ <;> conv => whnf)
          | (refine Cd.par tabOk (by kernel_rfl) (by kernel_rfl) ?_; conv => whnf)
          | rfl
          | exact True.intro
          | (refine And.intro ?_ ?_ <;> conv => whnf))
        refine ⟨(i + 1, out.take k ++ i :: out.drop k), ⟨by simp only; omega, hP.1, hP.2⟩, by simp only; omega, .inr ⟨?_, rfl, trivial, trivial, rfl, .inl rfl⟩⟩
        (repeat' constructor) <;> first | exact hE | (refine ivW ?_ ?_ ?_ <;> first | omega | (simp only at hi ⊢; omega))
    · obtain rfl : k = out.length := by omega
      have hP := ins_ok (k := out.length) hd hil hp hs hk (fun m y hm hy => hlo m y hm hy) (fun z hz => by simp at hz)
      have hko' : ¬ ((out.length : Nat) : Int) < ((nats out).length : Int) := by rw [hN]; omega
      conv => whnf
      repeat' (first
        | (refine bltG (by first | omega | (simp only [List.length_map] at *; omega)) ?_; conv => whnf)
        | (refine ndG (by assumption) ?_; conv => whnf)
        | (refine mulG ?_; conv => whnf)
        | (refine And.intro rfl ?_; conv => whnf)
        | (refine dsT (by assumption) ?_; conv => whnf)
        | (refine dsF (by assumption) ?_; conv => whnf)
        | (refine nsT (by assumption) ?_; conv => whnf)
        | (refine nsF (by assumption) ?_; conv => whnf)
        | (refine bsT (by assumption) ?_; conv => whnf)
        | (refine bsF (by assumption) ?_; conv => whnf)
        | (refine dsp ?_ ?_ <;> intro _ <;> conv => whnf)
        | (refine nsp ?_ ?_ <;> intro _ <;> conv => whnf)
        | (refine cnd_true (by assumption) ?_; conv => whnf)
        | (refine cnd_false (by assumption) ?_; conv => whnf)
        | (refine cnd_split ?_ ?_ <;> intro _ <;> conv => whnf)
        | (refine Cd.par tabOk (by kernel_rfl) (by kernel_rfl) ?_; conv => whnf))
      refine And.intro ⟨?_, ?_⟩ fun A1 c1 hv1 => ?_
      · refine Nat.le_trans (?_ : _ ≤ 4096) hmx
        simp only [List.length_take, List.length_drop, List.length_cons, List.length_nil, hN]; omega
      · refine Nat.le_trans (Nat.mul_le_mul_right _ (?_ : _ ≤ 4096)) (by decide)
        simp only [List.length_take, List.length_drop, List.length_cons, List.length_nil, hN]; omega
      conv => whnf
      repeat' (first
        | (refine bltG (by first | omega | (simp only [List.length_map] at *; omega)) ?_; conv => whnf)
        | (refine ndG (by assumption) ?_; conv => whnf)
        | (refine mulG ?_; conv => whnf)
        | (refine And.intro rfl ?_; conv => whnf)
        | (refine dsT (by assumption) ?_; conv => whnf)
        | (refine dsF (by assumption) ?_; conv => whnf)
        | (refine nsT (by assumption) ?_; conv => whnf)
        | (refine nsF (by assumption) ?_; conv => whnf)
        | (refine bsT (by assumption) ?_; conv => whnf)
        | (refine bsF (by assumption) ?_; conv => whnf)
        | (refine dsp ?_ ?_ <;> intro _ <;> conv => whnf)
        | (refine nsp ?_ ?_ <;> intro _ <;> conv => whnf)
        | (refine cnd_true (by assumption) ?_; conv => whnf)
        | (refine cnd_false (by assumption) ?_; conv => whnf)
        | (refine cnd_split ?_ ?_ <;> intro _ <;> conv => whnf)
        | (refine Cd.par tabOk (by kernel_rfl) (by kernel_rfl) ?_; conv => whnf)
        | rfl
        | exact True.intro
        | (refine And.intro ?_ ?_ <;> conv => whnf))
      · refine Nat.le_trans (?_ : _ ≤ 4096) hmx
        simp only [List.length_take, List.length_drop, List.length_cons, List.length_nil, hN]; omega
      · refine Nat.le_trans (Nat.mul_le_mul_right _ (?_ : _ ≤ 4096)) (by decide)
        simp only [List.length_take, List.length_drop, List.length_cons, List.length_nil, hN]; omega
      intro A2 c2 hv2
      refine lfI ?_
      conv => whnf
      repeat' (first
        | (refine bltG (by first | omega | (simp only [List.length_map] at *; omega)) ?_; conv => whnf)
        | (refine ndG (by assumption) ?_; conv => whnf)
        | (refine mulG ?_; conv => whnf)
        | (refine And.intro rfl ?_; conv => whnf)
        | (refine dsT (by assumption) ?_; conv => whnf)
        | (refine dsF (by assumption) ?_; conv => whnf)
        | (refine nsT (by assumption) ?_; conv => whnf)
        | (refine nsF (by assumption) ?_; conv => whnf)
        | (refine bsT (by assumption) ?_; conv => whnf)
        | (refine bsF (by assumption) ?_; conv => whnf)
        | (refine dsp ?_ ?_ <;> intro _ <;> conv => whnf)
        | (refine nsp ?_ ?_ <;> intro _ <;> conv => whnf)
        | (refine cnd_true (by assumption) ?_; conv => whnf)
        | (refine cnd_false (by assumption) ?_; conv => whnf)
        | (refine cnd_split ?_ ?_ <;> intro _ <;> conv => whnf)
        | (refine Cd.par tabOk (by kernel_rfl) (by kernel_rfl) ?_; conv => whnf)
        | rfl
        | exact True.intro
        | (refine And.intro ?_ ?_ <;> conv => whnf))
      · refine Nat.le_trans (?_ : _ ≤ 4096) hmx
        simp only [List.length_take, List.length_drop, List.length_cons, List.length_nil, hN]; omega
      · refine Nat.le_trans (Nat.mul_le_mul_right _ (?_ : _ ≤ 4096)) (by decide)
        simp only [List.length_take, List.length_drop, List.length_cons, List.length_nil, hN]; omega
      intro A3 c3 hv3
      refine lfI ?_
      conv => whnf
      repeat' (first
        | (refine bltG (by first | omega | (simp only [List.length_map] at *; omega)) ?_; conv => whnf)
        | (refine ndG (by assumption) ?_; conv => whnf)
        | (refine mulG ?_; conv => whnf)
        | (refine And.intro rfl ?_; conv => whnf)
        | (refine dsT (by assumption) ?_; conv => whnf)
        | (refine dsF (by assumption) ?_; conv => whnf)
        | (refine nsT (by assumption) ?_; conv => whnf)
        | (refine nsF (by assumption) ?_; conv => whnf)
        | (refine bsT (by assumption) ?_; conv => whnf)
        | (refine bsF (by assumption) ?_; conv => whnf)
        | (refine dsp ?_ ?_ <;> intro _ <;> conv => whnf)
        | (refine nsp ?_ ?_ <;> intro _ <;> conv => whnf)
        | (refine cnd_true (by assumption) ?_; conv => whnf)
        | (refine cnd_false (by assumption) ?_; conv => whnf)
        | (refine cnd_split ?_ ?_ <;> intro _ <;> conv => whnf)
        | (refine Cd.par tabOk (by kernel_rfl) (by kernel_rfl) ?_; conv => whnf)
        | rfl
        | exact True.intro
        | (refine And.intro ?_ ?_ <;> conv => whnf))
      refine ⟨(i + 1, out.take out.length ++ i :: out.drop out.length), ⟨by simp only; omega, hP.1, hP.2⟩, by simp only; omega, .inr ⟨?_, rfl, trivial, trivial, rfl, .inl rfl⟩⟩
      (repeat' constructor) <;> first | exact hE | (refine ivW ?_ ?_ ?_ <;> first | omega | (simp only at hi ⊢; omega))
  · obtain rfl : i = l.length := by simp only [List.length_map] at hlt; simp only at hi; omega
    have hid : out = idx l := srt_uniq (fun a b => ltI_asym) (hp.trans (idx_perm l).symm) hs (idx_srt hd)
    subst hid
    repeat' (first
      | (refine bltG (by first | omega | (simp only [List.length_map] at *; omega)) ?_; conv => whnf)
      | (refine ndG (by assumption) ?_; conv => whnf)
      | (refine mulG ?_; conv => whnf)
      | (refine And.intro rfl ?_; conv => whnf)
      | (refine dsT (by assumption) ?_; conv => whnf)
      | (refine dsF (by assumption) ?_; conv => whnf)
      | (refine nsT (by assumption) ?_; conv => whnf)
      | (refine nsF (by assumption) ?_; conv => whnf)
      | (refine bsT (by assumption) ?_; conv => whnf)
      | (refine bsF (by assumption) ?_; conv => whnf)
      | (refine dsp ?_ ?_ <;> intro _ <;> conv => whnf)
      | (refine nsp ?_ ?_ <;> intro _ <;> conv => whnf)
      | (refine cnd_true (by assumption) ?_; conv => whnf)
      | (refine cnd_false (by assumption) ?_; conv => whnf)
      | (refine cnd_split ?_ ?_ <;> intro _ <;> conv => whnf)
      | (refine Cd.par tabOk (by kernel_rfl) (by kernel_rfl) ?_; conv => whnf))
    all_goals first | rfl | (repeat' constructor)
theorem ints_nats (es : List Nat) : ints (es.map fun k : Nat => (k : Int)) = .lst false 1 (nats es) := by
  unfold ints nats
  rw [List.map_map]
  rfl
theorem r_ar_Check (a : Ar) (ha : a.bd) : Fc Tryz.prog n_ouroborosref08_Check [a.sv] (sb (decide (arOk a))) := by
  have h1 := r_slots a.slots ha.2.1 ha.1
  by_cases k1 : 1 ≤ a.cap ∧ a.cap ≤ 8 ∧ (a.slots.length : Int) ≤ a.cap ∧ (∀ e ∈ a.slots, entOk e) ∧ dist a.slots
  · obtain ⟨c1, c2, c3, c4, c5⟩ := k1
    have h2 := r_index a.slots (by omega) c5
    have h3 := r_Ints a.index ((idx a.slots).map fun k : Nat => (k : Int)) (by have := ha.2.2; omega)
    rw [ints_nats] at h3
    rw [decide_eq_true ⟨c4, c5⟩] at h1
    have c3' : ((a.slots.map Ent.sv).length : Int) ≤ a.cap := by rw [List.length_map]; exact c3
    rw [show decide (arOk a) = decide (a.index = (idx a.slots).map fun k : Nat => (k : Int)) from decide_eq_decide.2 ⟨fun h => h.2.2.2.2.2.symm, fun h => ⟨c1, c2, c3, c4, srtd_of_dist c5, h.symm⟩⟩]
    generalize decide (a.index = (idx a.slots).map fun k : Nat => (k : Int)) = bq at *
    generalize nats (idx a.slots) = ns at *
    refine Fc.of_body tabOk q_ouroborosref08_Check (by kernel_rfl) ((blwL_one (blw_ar 0 a))) (rfl) ?_
    conv => whnf
    repeat' (first
      | (refine bltG (by first | omega | (simp only [List.length_map] at *; omega)) ?_; conv => whnf)
      | (refine ndG (by assumption) ?_; conv => whnf)
      | (refine mulG ?_; conv => whnf)
      | (refine And.intro rfl ?_; conv => whnf)
      | (refine dsT (by assumption) ?_; conv => whnf)
      | (refine dsF (by assumption) ?_; conv => whnf)
      | (refine nsT (by assumption) ?_; conv => whnf)
      | (refine nsF (by assumption) ?_; conv => whnf)
      | (refine bsT (by assumption) ?_; conv => whnf)
      | (refine bsF (by assumption) ?_; conv => whnf)
      | (refine dsp ?_ ?_ <;> intro _ <;> conv => whnf)
      | (refine nsp ?_ ?_ <;> intro _ <;> conv => whnf)
      | (refine cnd_true (by assumption) ?_; conv => whnf)
      | (refine cnd_false (by assumption) ?_; conv => whnf)
      | (refine cnd_split ?_ ?_ <;> intro _ <;> conv => whnf)
      | (refine Cd.par tabOk (by kernel_rfl) (by kernel_rfl) ?_; conv => whnf)
      | (refine Fc.use (h1) ?_ ?_; (focus ((repeat' constructor); done)); conv => whnf)
      | (refine CallQ.of (h1) ?_ ?_; (focus ((repeat' constructor); done)); conv => whnf)
      | (refine Fc.use (h2) ?_ ?_; (focus ((repeat' constructor); done)); conv => whnf)
      | (refine CallQ.of (h2) ?_ ?_; (focus ((repeat' constructor); done)); conv => whnf)
      | (refine Fc.use (h3) ?_ ?_; (focus ((repeat' constructor); done)); conv => whnf)
      | (refine CallQ.of (h3) ?_ ?_; (focus ((repeat' constructor); done)); conv => whnf))
    all_goals first | rfl | (exfalso; omega)
  · have hno : ¬ arOk a := fun h => k1 ⟨h.1, h.2.1, h.2.2.1, h.2.2.2.1, dist_of_srtd h.2.2.2.2.1⟩
    rw [decide_eq_false hno]
    by_cases c1 : 1 ≤ a.cap
    · by_cases c2 : a.cap ≤ 8
      · by_cases c3 : ((a.slots.map Ent.sv).length : Int) ≤ a.cap
        · have c4 : ¬ ((∀ e ∈ a.slots, entOk e) ∧ dist a.slots) := fun h => k1 ⟨c1, c2, by rw [List.length_map] at c3; exact c3, h.1, h.2⟩
          rw [decide_eq_false c4] at h1
          refine Fc.of_body tabOk q_ouroborosref08_Check (by kernel_rfl) ((blwL_one (blw_ar 0 a))) (rfl) ?_
          conv => whnf
          repeat' (first
            | (refine bltG (by first | omega | (simp only [List.length_map] at *; omega)) ?_; conv => whnf)
            | (refine ndG (by assumption) ?_; conv => whnf)
            | (refine mulG ?_; conv => whnf)
            | (refine And.intro rfl ?_; conv => whnf)
            | (refine dsT (by assumption) ?_; conv => whnf)
            | (refine dsF (by assumption) ?_; conv => whnf)
            | (refine nsT (by assumption) ?_; conv => whnf)
            | (refine nsF (by assumption) ?_; conv => whnf)
            | (refine bsT (by assumption) ?_; conv => whnf)
            | (refine bsF (by assumption) ?_; conv => whnf)
            | (refine dsp ?_ ?_ <;> intro _ <;> conv => whnf)
            | (refine nsp ?_ ?_ <;> intro _ <;> conv => whnf)
            | (refine cnd_true (by assumption) ?_; conv => whnf)
            | (refine cnd_false (by assumption) ?_; conv => whnf)
            | (refine cnd_split ?_ ?_ <;> intro _ <;> conv => whnf)
            | (refine Cd.par tabOk (by kernel_rfl) (by kernel_rfl) ?_; conv => whnf)
            | (refine Fc.use (h1) ?_ ?_; (focus ((repeat' constructor); done)); conv => whnf)
            | (refine CallQ.of (h1) ?_ ?_; (focus ((repeat' constructor); done)); conv => whnf))
          all_goals rfl
        · refine Fc.of_body tabOk q_ouroborosref08_Check (by kernel_rfl) ((blwL_one (blw_ar 0 a))) (rfl) ?_
          conv => whnf
          repeat' (first
            | (refine bltG (by first | omega | (simp only [List.length_map] at *; omega)) ?_; conv => whnf)
            | (refine ndG (by assumption) ?_; conv => whnf)
            | (refine mulG ?_; conv => whnf)
            | (refine And.intro rfl ?_; conv => whnf)
            | (refine dsT (by assumption) ?_; conv => whnf)
            | (refine dsF (by assumption) ?_; conv => whnf)
            | (refine nsT (by assumption) ?_; conv => whnf)
            | (refine nsF (by assumption) ?_; conv => whnf)
            | (refine bsT (by assumption) ?_; conv => whnf)
            | (refine bsF (by assumption) ?_; conv => whnf)
            | (refine dsp ?_ ?_ <;> intro _ <;> conv => whnf)
            | (refine nsp ?_ ?_ <;> intro _ <;> conv => whnf)
            | (refine cnd_true (by assumption) ?_; conv => whnf)
            | (refine cnd_false (by assumption) ?_; conv => whnf)
            | (refine cnd_split ?_ ?_ <;> intro _ <;> conv => whnf)
            | (refine Cd.par tabOk (by kernel_rfl) (by kernel_rfl) ?_; conv => whnf))
          all_goals rfl
      · refine Fc.of_body tabOk q_ouroborosref08_Check (by kernel_rfl) ((blwL_one (blw_ar 0 a))) (rfl) ?_
        conv => whnf
        repeat' (first
          | (refine bltG (by first | omega | (simp only [List.length_map] at *; omega)) ?_; conv => whnf)
          | (refine ndG (by assumption) ?_; conv => whnf)
          | (refine mulG ?_; conv => whnf)
          | (refine And.intro rfl ?_; conv => whnf)
          | (refine dsT (by assumption) ?_; conv => whnf)
          | (refine dsF (by assumption) ?_; conv => whnf)
          | (refine nsT (by assumption) ?_; conv => whnf)
          | (refine nsF (by assumption) ?_; conv => whnf)
          | (refine bsT (by assumption) ?_; conv => whnf)
          | (refine bsF (by assumption) ?_; conv => whnf)
          | (refine dsp ?_ ?_ <;> intro _ <;> conv => whnf)
          | (refine nsp ?_ ?_ <;> intro _ <;> conv => whnf)
          | (refine cnd_true (by assumption) ?_; conv => whnf)
          | (refine cnd_false (by assumption) ?_; conv => whnf)
          | (refine cnd_split ?_ ?_ <;> intro _ <;> conv => whnf)
          | (refine Cd.par tabOk (by kernel_rfl) (by kernel_rfl) ?_; conv => whnf))
        all_goals rfl
    · refine Fc.of_body tabOk q_ouroborosref08_Check (by kernel_rfl) ((blwL_one (blw_ar 0 a))) (rfl) ?_
      conv => whnf
      repeat' (first
        | (refine bltG (by first | omega | (simp only [List.length_map] at *; omega)) ?_; conv => whnf)
        | (refine ndG (by assumption) ?_; conv => whnf)
        | (refine mulG ?_; conv => whnf)
        | (refine And.intro rfl ?_; conv => whnf)
        | (refine dsT (by assumption) ?_; conv => whnf)
        | (refine dsF (by assumption) ?_; conv => whnf)
        | (refine nsT (by assumption) ?_; conv => whnf)
        | (refine nsF (by assumption) ?_; conv => whnf)
        | (refine bsT (by assumption) ?_; conv => whnf)
        | (refine bsF (by assumption) ?_; conv => whnf)
        | (refine dsp ?_ ?_ <;> intro _ <;> conv => whnf)
        | (refine nsp ?_ ?_ <;> intro _ <;> conv => whnf)
        | (refine cnd_true (by assumption) ?_; conv => whnf)
        | (refine cnd_false (by assumption) ?_; conv => whnf)
        | (refine cnd_split ?_ ?_ <;> intro _ <;> conv => whnf)
        | (refine Cd.par tabOk (by kernel_rfl) (by kernel_rfl) ?_; conv => whnf))
      all_goals rfl
theorem r_entries (l : List Ent) (hl : l.length < 2 ^ 40) (hb : ∀ e ∈ l, e.bd) : Fc Tryz.prog n_ouroborosref14_entries [ents l] (sb (decide ((l.length : Int) ≤ 8 ∧ ∀ e ∈ l, entOk e))) := by
  refine Fc.of_body tabOk q_ouroborosref14_entries (by kernel_rfl) ((blwL_one (blw_ents 0 l))) (rfl) ?_
  conv => whnf
  refine loopP tabOk (fun i : Nat => i ≤ l.length ∧ (∀ e ∈ l.take i, entOk e)) (fun i => ⟨[(3, iv i), (0, ents l)], []⟩) (fun _ => ⟨0, [], []⟩) (fun i => l.length - i) 0 ⟨Nat.zero_le _, by simp⟩ (by repeat' constructor) (fun _ => rfl) ?_
  rintro i ⟨hi, hok⟩
  conv => whnf
  refine dsp ?_ ?_ <;> intro hlt <;> conv => whnf
  · simp only [List.length_map] at hlt
    obtain ⟨x, hx⟩ : ∃ x, l[i]? = some x := ⟨_, List.getElem?_eq_getElem (by omega)⟩
    have hxm := List.mem_of_getElem? hx
    have hc := r_ent_Check x (hb x hxm)
    by_cases hxo : entOk x
    · rw [decide_eq_true hxo] at hc
      have hok' : ∀ e ∈ l.take (i + 1), entOk e := by
        rw [List.take_add_one, hx]
        intro e he
        rcases List.mem_append.1 he with he | he
        · exact hok e he
        · simp at he; subst he; exact hxo
      repeat' (first
        | (refine bltG (by first | omega | (simp only [List.length_map] at *; omega)) ?_; conv => whnf)
        | (refine ndG (by assumption) ?_; conv => whnf)
        | (refine mulG ?_; conv => whnf)
        | (refine And.intro rfl ?_; conv => whnf)
        | (refine dsT (by assumption) ?_; conv => whnf)
        | (refine dsF (by assumption) ?_; conv => whnf)
        | (refine nsT (by assumption) ?_; conv => whnf)
        | (refine nsF (by assumption) ?_; conv => whnf)
        | (refine bsT (by assumption) ?_; conv => whnf)
        | (refine bsF (by assumption) ?_; conv => whnf)
        | (refine dsp ?_ ?_ <;> intro _ <;> conv => whnf)
        | (refine nsp ?_ ?_ <;> intro _ <;> conv => whnf)
        | (refine cnd_true (by assumption) ?_; conv => whnf)
        | (refine cnd_false (by assumption) ?_; conv => whnf)
        | (refine cnd_split ?_ ?_ <;> intro _ <;> conv => whnf)
        | (refine Cd.par tabOk (by kernel_rfl) (by kernel_rfl) ?_; conv => whnf)
        | (refine Fc.use (hc) ?_ ?_; (focus ((repeat' constructor); done)); conv => whnf)
        | (refine CallQ.of (hc) ?_ ?_; (focus ((repeat' constructor); done)); conv => whnf))
      refine ⟨i + 1, ⟨by omega, hok'⟩, ?_, ?_⟩
      · first | omega | (simp only [List.length_map] at *; omega)
      · (repeat' constructor) <;> first | (refine ivW ?_ ?_ ?_ <;> first | omega | (dsimp only; omega))
    · rw [decide_eq_false hxo] at hc
      repeat' (first
        | (refine bltG (by first | omega | (simp only [List.length_map] at *; omega)) ?_; conv => whnf)
        | (refine ndG (by assumption) ?_; conv => whnf)
        | (refine mulG ?_; conv => whnf)
        | (refine And.intro rfl ?_; conv => whnf)
        | (refine dsT (by assumption) ?_; conv => whnf)
        | (refine dsF (by assumption) ?_; conv => whnf)
        | (refine nsT (by assumption) ?_; conv => whnf)
        | (refine nsF (by assumption) ?_; conv => whnf)
        | (refine bsT (by assumption) ?_; conv => whnf)
        | (refine bsF (by assumption) ?_; conv => whnf)
        | (refine dsp ?_ ?_ <;> intro _ <;> conv => whnf)
        | (refine nsp ?_ ?_ <;> intro _ <;> conv => whnf)
        | (refine cnd_true (by assumption) ?_; conv => whnf)
        | (refine cnd_false (by assumption) ?_; conv => whnf)
        | (refine cnd_split ?_ ?_ <;> intro _ <;> conv => whnf)
        | (refine Cd.par tabOk (by kernel_rfl) (by kernel_rfl) ?_; conv => whnf)
        | (refine Fc.use (hc) ?_ ?_; (focus ((repeat' constructor); done)); conv => whnf)
        | (refine CallQ.of (hc) ?_ ?_; (focus ((repeat' constructor); done)); conv => whnf))
      exact sbF fun hq => hxo (hq.2 x hxm)
  · have hie : i = l.length := by simp only [List.length_map] at hlt; omega
    subst hie
    rw [List.take_of_length_le (Nat.le_refl _)] at hok
    repeat' (first
      | (refine bltG (by first | omega | (simp only [List.length_map] at *; omega)) ?_; conv => whnf)
      | (refine ndG (by assumption) ?_; conv => whnf)
      | (refine mulG ?_; conv => whnf)
      | (refine And.intro rfl ?_; conv => whnf)
      | (refine dsT (by assumption) ?_; conv => whnf)
      | (refine dsF (by assumption) ?_; conv => whnf)
      | (refine nsT (by assumption) ?_; conv => whnf)
      | (refine nsF (by assumption) ?_; conv => whnf)
      | (refine bsT (by assumption) ?_; conv => whnf)
      | (refine bsF (by assumption) ?_; conv => whnf)
      | (refine dsp ?_ ?_ <;> intro _ <;> conv => whnf)
      | (refine nsp ?_ ?_ <;> intro _ <;> conv => whnf)
      | (refine cnd_true (by assumption) ?_; conv => whnf)
      | (refine cnd_false (by assumption) ?_; conv => whnf)
      | (refine cnd_split ?_ ?_ <;> intro _ <;> conv => whnf)
      | (refine Cd.par tabOk (by kernel_rfl) (by kernel_rfl) ?_; conv => whnf))
    exact sbD (by rw [List.length_map]; exact ⟨fun h => ⟨h, hok⟩, fun h => h.1⟩)
end Go.Proofs.YtmjpidjdbofdjaaGreat

