import Derived.Test.YtmjpidjdbofdjaaGreatVj
/- Plain law: names in their order; sorting; what joining does to an arena. -/
set_option linter.unusedVariables false
set_option linter.unusedSimpArgs false
set_option maxRecDepth 100000
namespace Go.Proofs.YtmjpidjdbofdjaaGreat
open Go Go.Sy
/-! ### Names in their order -/
theorem bl_irrefl : ∀ x : List UInt8, Op.bytesLess x x = false
  | [] => rfl
  | a :: x => by
    have := bl_irrefl x
    simp [Op.bytesLess, this]
theorem bl_trans : ∀ {x y z : List UInt8}, Op.bytesLess x y = true → Op.bytesLess y z = true → Op.bytesLess x z = true
  | _, _, [], _, h => by rename_i x y _; cases y <;> simp [Op.bytesLess] at h
  | _, [], _ :: _, h, _ => by rename_i x _ _; cases x <;> simp [Op.bytesLess] at h
  | [], _ :: _, _ :: _, _, _ => by simp [Op.bytesLess]
  | a :: x, b :: y, c :: z, h, k => by
    simp only [Op.bytesLess, Bool.or_eq_true, decide_eq_true_eq, Bool.and_eq_true, beq_iff_eq] at h k ⊢
    rcases h with h | ⟨rfl, h⟩
    · rcases k with k | ⟨rfl, k⟩
      · exact .inl (UInt8.lt_trans h k)
      · exact .inl h
    · rcases k with k | ⟨rfl, k⟩
      · exact .inl k
      · exact .inr ⟨rfl, bl_trans h k⟩
theorem bl_total : ∀ {x y : List UInt8}, x ≠ y → Op.bytesLess x y = true ∨ Op.bytesLess y x = true
  | [], [], h => absurd rfl h
  | [], _ :: _, _ => .inl rfl
  | _ :: _, [], _ => .inr rfl
  | a :: x, b :: y, h => by
    simp only [Op.bytesLess, Bool.or_eq_true, decide_eq_true_eq, Bool.and_eq_true, beq_iff_eq]
    by_cases hab : a = b
    · subst hab
      have hxy : x ≠ y := fun e => h (by rw [e])
      rcases bl_total hxy with h1 | h1
      · exact .inl (.inr ⟨rfl, h1⟩)
      · exact .inr (.inr ⟨rfl, h1⟩)
    · rcases UInt8.lt_or_lt_of_ne hab with h1 | h1
      · exact .inl (.inl h1)
      · exact .inr (.inl h1)
theorem toList_inj {a b : ByteArray} (h : a.toList = b.toList) : a = b := by
  rw [ByteArray.toList_eq, ByteArray.toList_eq] at h
  exact Go.WideShapes.bytes_inj h
/-- Of one name. -/
def named (a b : Ent) : Prop := a.val.kind = b.val.kind ∧ a.key = b.key
instance (a b : Ent) : Decidable (named a b) := by unfold named; infer_instance
theorem lt_irr (a b : Ent) (h : named a b) : entLt a b = false := by
  unfold entLt
  rw [if_neg (by simp [h.1]), h.2]; exact bl_irrefl _
theorem lt_tr {a b c : Ent} (h : entLt a b = true) (k : entLt b c = true) : entLt a c = true := by
  unfold entLt at *
  by_cases h1 : a.val.kind = b.val.kind
  · rw [if_neg (by simp [h1])] at h
    by_cases h2 : b.val.kind = c.val.kind
    · rw [if_neg (by simp [h2])] at k
      rw [if_neg (by simp [h1, h2])]
      exact bl_trans h k
    · rw [if_pos h2] at k
      rw [if_pos (by rw [h1]; exact h2), h1]; exact k
  · rw [if_pos h1] at h
    by_cases h2 : b.val.kind = c.val.kind
    · rw [← h2, if_pos h1]; exact h
    · rw [if_pos h2] at k
      simp only [decide_eq_true_eq] at h k
      rw [if_pos (by omega)]
      simp only [decide_eq_true_eq]
      omega
theorem lt_tot {a b : Ent} (h : ¬ named a b) : entLt a b = true ∨ entLt b a = true := by
  unfold entLt
  by_cases h1 : a.val.kind = b.val.kind
  · rw [if_neg (by simp [h1]), if_neg (by simp [h1])]
    exact bl_total fun e => h ⟨h1, toList_inj e⟩
  · rw [if_pos h1, if_pos (Ne.symm h1)]
    simp only [decide_eq_true_eq]
    omega
/-! ### Sorting by insertion -/
def insR (lt : Nat → Nat → Bool) : List Nat → Nat → List Nat
  | [], x => [x]
  | y :: r, x => if lt x y then y :: insR lt r x else x :: y :: r
theorem insR_perm (lt : Nat → Nat → Bool) : ∀ (r : List Nat) (x : Nat), (insR lt r x).Perm (x :: r)
  | [], x => .refl _
  | y :: r, x => by
    unfold insR
    split
    · exact ((insR_perm lt r x).cons y).trans (.swap x y r)
    · exact .refl _
theorem sink_eq (lt : Nat → Nat → Bool) : ∀ (r : List Nat) (x : Nat) (post : List Nat), sink lt (r.reverse ++ x :: post) r.length = (insR lt r x).reverse ++ post
  | [], x, post => rfl
  | y :: r, x, post => by
    have hl : (y :: r).reverse ++ x :: post = r.reverse ++ y :: x :: post := by simp
    rw [hl]
    have e1 : (r.reverse ++ y :: x :: post).getD (r.length + 1) 0 = x := by
      simp [List.getD, List.getElem?_append_right]
    have e2 : (r.reverse ++ y :: x :: post).getD r.length 0 = y := by
      simp [List.getD, List.getElem?_append_right]
    show sink lt (r.reverse ++ y :: x :: post) (r.length + 1) = _
    unfold sink insR
    rw [e1, e2]
    split
    · have e3 : swp (r.reverse ++ y :: x :: post) (r.length + 1) = r.reverse ++ x :: y :: post := by
        unfold swp
        rw [Nat.add_sub_cancel, e1, e2]
        rw [List.set_append_right _ _ (by simp), List.set_append_right _ _ (by simp)]
        simp
      rw [e3, sink_eq lt r x (y :: post)]
      simp
    · simp
def SrtR (lt : Nat → Nat → Bool) (r : List Nat) : Prop := r.Pairwise fun a b => lt b a = true
theorem insR_srt {lt : Nat → Nat → Bool} (htr : ∀ a b c, lt a b = true → lt b c = true → lt a c = true) : ∀ (r : List Nat) (x : Nat), SrtR lt r → (∀ y ∈ r, lt x y = true ∨ lt y x = true) → SrtR lt (insR lt r x)
  | [], x, _, _ => by simp [insR, SrtR]
  | y :: r, x, h, ht => by
    unfold SrtR at h
    rw [List.pairwise_cons] at h
    unfold insR
    split
    · rename_i hxy
      refine List.pairwise_cons.2 ⟨fun z hz => ?_, insR_srt htr r x h.2 fun z hz => ht z (List.mem_cons_of_mem _ hz)⟩
      rcases List.mem_cons.1 ((insR_perm lt r x).mem_iff.1 hz) with rfl | hz
      · exact hxy
      · exact h.1 z hz
    · rename_i hxy
      have hyx : lt y x = true := (ht y (List.mem_cons_self ..)).resolve_left hxy
      refine List.pairwise_cons.2 ⟨fun z hz => ?_, List.pairwise_cons.2 h⟩
      rcases List.mem_cons.1 hz with rfl | hz
      · exact hyx
      · exact htr _ _ _ (h.1 z hz) hyx
theorem iso_perm (lt : Nat → Nat → Bool) (es : List Nat) : ∀ m, m ≤ es.length → ∃ r : List Nat, r.length = m ∧ iso lt es m = r.reverse ++ es.drop m ∧ r.Perm (es.take m)
  | 0, _ => ⟨[], rfl, by simp [iso], by simp⟩
  | m + 1, h => by
    obtain ⟨r, h1, h2, h3⟩ := iso_perm lt es m (by omega)
    obtain ⟨x, hx⟩ : ∃ x, es[m]? = some x := ⟨_, List.getElem?_eq_getElem (by omega)⟩
    have hd : es.drop m = x :: es.drop (m + 1) := by rw [List.drop_eq_getElem_cons (by omega)]; rw [List.getElem?_eq_getElem (by omega)] at hx; rw [Option.some.inj hx]
    refine ⟨insR lt r x, by rw [(insR_perm lt r x).length_eq]; simp [h1], ?_, ?_⟩
    · show sink lt (iso lt es m) m = _
      rw [h2, hd, ← h1, sink_eq]
    · rw [List.take_add_one, hx]
      refine (insR_perm lt r x).trans ?_
      refine (h3.cons x).trans ?_
      simpa using (List.perm_append_singleton x (es.take m)).symm
theorem iso_srt {lt : Nat → Nat → Bool} (htr : ∀ a b c, lt a b = true → lt b c = true → lt a c = true) (es : List Nat) (htot : es.Pairwise fun a b => lt a b = true ∨ lt b a = true) : ∀ m, m ≤ es.length → ∃ r : List Nat, r.length = m ∧ iso lt es m = r.reverse ++ es.drop m ∧ r.Perm (es.take m) ∧ SrtR lt r
  | 0, _ => ⟨[], rfl, by simp [iso], by simp, by simp [SrtR]⟩
  | m + 1, h => by
    obtain ⟨r, h1, h2, h3, h4⟩ := iso_srt htr es htot m (by omega)
    obtain ⟨x, hx⟩ : ∃ x, es[m]? = some x := ⟨_, List.getElem?_eq_getElem (by omega)⟩
    have hd : es.drop m = x :: es.drop (m + 1) := by rw [List.drop_eq_getElem_cons (by omega)]; rw [List.getElem?_eq_getElem (by omega)] at hx; rw [Option.some.inj hx]
    refine ⟨insR lt r x, by rw [(insR_perm lt r x).length_eq]; simp [h1], ?_, ?_, insR_srt htr r x h4 fun y hy => ?_⟩
    · show sink lt (iso lt es m) m = _
      rw [h2, hd, ← h1, sink_eq]
    · rw [List.take_add_one, hx]
      refine (insR_perm lt r x).trans ?_
      refine (h3.cons x).trans ?_
      simpa using (List.perm_append_singleton x (es.take m)).symm
    · have hy := h3.mem_iff.1 hy
      obtain ⟨i, hi, rfl⟩ := List.mem_iff_getElem.1 hy
      have him : i < m := by simp at hi; omega
      have := List.pairwise_iff_getElem.1 htot i m (by omega) (by omega) him
      rw [List.getElem_take]
      have e : es[m] = x := by rw [List.getElem?_eq_getElem (by omega)] at hx; exact Option.some.inj hx
      rw [e] at this
      exact this.symm
theorem idx_perm (l : List Ent) : (idx l).Perm (List.range l.length) := by
  obtain ⟨r, h1, h2, h3⟩ := iso_perm (ltI l) (List.range l.length) l.length (by simp)
  unfold idx
  rw [h2, List.drop_of_length_le (by simp), List.append_nil]
  rw [List.take_of_length_le (by simp)] at h3
  exact (List.reverse_perm r).trans h3
theorem ltI_tr {l : List Ent} {x y z : Nat} (h : ltI l x y = true) (k : ltI l y z = true) : ltI l x z = true := by
  unfold ltI at *
  cases hx : l[x]? <;> cases hy : l[y]? <;> cases hz : l[z]? <;> simp only [hx, hy, hz] at h k ⊢ <;> first | cases h | cases k | exact lt_tr h k
/-- Names are there once. -/
def dist (l : List Ent) : Prop := l.Pairwise fun a b => ¬ named a b
theorem srtd_of_dist {l : List Ent} (h : dist l) : srtd l := by
  have htot : (List.range l.length).Pairwise fun a b => ltI l a b = true ∨ ltI l b a = true := by
    rw [List.pairwise_iff_getElem]
    intro i j hi hj hij
    simp only [List.length_range] at hi hj
    simp only [List.getElem_range]
    have e1 : l[i]? = some l[i] := List.getElem?_eq_getElem hi
    have e2 : l[j]? = some l[j] := List.getElem?_eq_getElem hj
    rw [ltI_at e1 e2, ltI_at e2 e1]
    exact lt_tot (List.pairwise_iff_getElem.1 h i j hi hj hij)
  obtain ⟨r, h1, h2, h3, h4⟩ := iso_srt (lt := ltI l) (fun _ _ _ => ltI_tr) (List.range l.length) htot l.length (by simp)
  have he : idx l = r.reverse := by unfold idx; rw [h2, List.drop_of_length_le (by simp), List.append_nil]
  have hs : (idx l).Pairwise fun a b => ltI l a b = true := by rw [he, List.pairwise_reverse]; exact h4
  intro k hk
  have hlen : (idx l).length = l.length := by rw [(idx_perm l).length_eq]; simp
  rw [List.getD_eq_getElem?_getD, List.getD_eq_getElem?_getD, List.getElem?_eq_getElem (by omega), List.getElem?_eq_getElem (by omega)]
  exact List.pairwise_iff_getElem.1 hs k (k + 1) (by omega) (by omega) (by omega)
theorem dist_of_srtd {l : List Ent} (h : srtd l) : dist l := by
  have hlen : (idx l).length = l.length := by rw [(idx_perm l).length_eq]; simp
  have step : ∀ d i, i + d + 1 < l.length → ltI l ((idx l).getD i 0) ((idx l).getD (i + d + 1) 0) = true := by
    intro d
    induction d with
    | zero => intro i hi; exact h i (by omega)
    | succ d ih => intro i hi; exact ltI_tr (ih i (by omega)) (h (i + d + 1) (by omega))
  refine List.pairwise_iff_getElem.2 fun i j hi hj hij hn => ?_
  -- where i and j stand
  have mi : i ∈ idx l := (idx_perm l).mem_iff.2 (by simp; omega)
  have mj : j ∈ idx l := (idx_perm l).mem_iff.2 (by simp; omega)
  obtain ⟨p, hp, hpi⟩ := List.mem_iff_getElem.1 mi
  obtain ⟨q, hq, hqj⟩ := List.mem_iff_getElem.1 mj
  have e1 : l[i]? = some l[i] := List.getElem?_eq_getElem hi
  have e2 : l[j]? = some l[j] := List.getElem?_eq_getElem hj
  have gp : (idx l).getD p 0 = i := by rw [List.getD_eq_getElem?_getD, List.getElem?_eq_getElem hp, hpi]; rfl
  have gq : (idx l).getD q 0 = j := by rw [List.getD_eq_getElem?_getD, List.getElem?_eq_getElem hq, hqj]; rfl
  have hpq : p ≠ q := by rintro rfl; rw [gp] at gq; omega
  rcases Nat.lt_or_gt_of_ne hpq with hlt | hlt
  · have := step (q - p - 1) p (by omega)
    rw [show p + (q - p - 1) + 1 = q by omega, gp, gq, ltI_at e1 e2, lt_irr _ _ hn] at this
    cases this
  · have := step (p - q - 1) q (by omega)
    rw [show q + (p - q - 1) + 1 = p by omega, gp, gq, ltI_at e2 e1, lt_irr _ _ ⟨hn.1.symm, hn.2.symm⟩] at this
    cases this
theorem srtd_iff {l : List Ent} : srtd l ↔ dist l := ⟨dist_of_srtd, srtd_of_dist⟩
/-- The order of names, of slots of other values. -/
theorem idx_congr {l m : List Ent} (hl : l.length = m.length) (h : ∀ (i : Nat) (x y : Ent), l[i]? = some x → m[i]? = some y → named x y) : idx l = idx m := by
  have : ltI l = ltI m := by
    funext x y
    unfold ltI
    have e : ∀ k : Nat, (l[k]? = none ∧ m[k]? = none) ∨ ∃ a b, l[k]? = some a ∧ m[k]? = some b ∧ named a b := by
      intro k
      by_cases hk : k < l.length
      · exact .inr ⟨l[k], m[k], List.getElem?_eq_getElem hk, List.getElem?_eq_getElem (by omega), h k _ _ (List.getElem?_eq_getElem hk) (List.getElem?_eq_getElem (by omega))⟩
      · exact .inl ⟨List.getElem?_eq_none (by omega), List.getElem?_eq_none (by omega)⟩
    rcases e x with ⟨h1, h2⟩ | ⟨a, b, h1, h2, h3⟩ <;> rcases e y with ⟨h4, h5⟩ | ⟨c, d, h4, h5, h6⟩ <;> simp only [h1, h2, h4, h5]
    unfold entLt
    rw [h3.1, h3.2, h6.1, h6.2]
  unfold idx
  rw [this, hl]
/-! ### Values that come together -/
def btI (b : Bool) : Int := if b then 1 else 0
def regLt (a b : Val) : Bool :=
  decide (a.time < b.time) || (decide (a.time = b.time) && (decide (a.node < b.node) || (decide (a.node = b.node) && (decide (btI a.dead < btI b.dead) || (decide (a.dead = b.dead) && Op.bytesLess a.text.toList b.text.toList)))))
def zmax : List Int → List Int → List Int
  | x :: r, y :: s => max x y :: zmax r s
  | r, _ => r
theorem zmax_len : ∀ (r s : List Int), (zmax r s).length = r.length
  | [], _ => by simp [zmax]
  | _ :: _, [] => by simp [zmax]
  | x :: r, y :: s => by simp [zmax, zmax_len r s]
theorem zmax_idem : ∀ r : List Int, zmax r r = r
  | [] => rfl
  | x :: r => by simp [zmax, zmax_idem r]
theorem zmax_comm : ∀ {r s : List Int}, r.length = s.length → zmax r s = zmax s r
  | [], [], _ => rfl
  | x :: r, y :: s, h => by simp only [List.length_cons, Nat.add_right_cancel_iff] at h; simp [zmax, zmax_comm h, Int.max_comm]
theorem zmax_assoc : ∀ {r s t : List Int}, r.length = s.length → s.length = t.length → zmax (zmax r s) t = zmax r (zmax s t)
  | [], [], [], _, _ => rfl
  | x :: r, y :: s, z :: t, h, k => by simp only [List.length_cons, Nat.add_right_cancel_iff] at h k; simp [zmax, zmax_assoc h k, Int.max_assoc]
theorem zmax_mem : ∀ {r s : List Int} {z : Int}, z ∈ zmax r s → z ∈ r ∨ z ∈ s
  | [], _, z, h => by simp [zmax] at h
  | _ :: _, [], z, h => by simp only [zmax] at h; exact .inl h
  | x :: r, y :: s, z, h => by
    simp only [zmax, List.mem_cons] at h ⊢
    rcases h with h | h
    · rcases Int.le_total x y with h1 | h1
      · rw [Int.max_eq_right h1] at h; exact .inr (.inl h)
      · rw [Int.max_eq_left h1] at h; exact .inl (.inl h)
    · rcases zmax_mem h with h1 | h1
      · exact .inl (.inr h1)
      · exact .inr (.inr h1)
def joinV (a b : Val) : Val :=
  if a.kind = 1 then (if regLt a b then b else a)
  else if a.kind = 2 then { a with plus := zmax a.plus b.plus, minus := zmax a.minus b.minus }
  else { a with flags := bitI .or .u64 a.flags b.flags }
def joinE (a b : Ent) : Ent := ⟨a.key, joinV a.val b.val⟩
theorem joinV_kind {a b : Val} (h : a.kind = b.kind) : (joinV a b).kind = a.kind := by
  unfold joinV
  split
  · split
    · exact h.symm
    · rfl
  · split <;> rfl
theorem joinV_ok {a b : Val} (ha : valOk a) (hb : valOk b) (h : a.kind = b.kind) : valOk (joinV a b) := by
  unfold joinV
  split
  · split
    · exact hb
    · exact ha
  · split
    · rename_i h1 h2
      have ca : cntIs a := by rcases ha with h3 | h3 | h3 <;> first | exact h3.2 | (exfalso; omega)
      have cb : cntIs b := by rcases hb with h3 | h3 | h3 <;> first | exact h3.2 | (exfalso; omega)
      refine .inr (.inl ⟨h2, ?_⟩)
      obtain ⟨a1, a2, a3, a4, a5⟩ := ca
      obtain ⟨b1, b2, b3, b4, b5⟩ := cb
      simp only [List.any_eq_false, decide_eq_true_eq] at a4 a5 b4 b5
      refine ⟨?_, by simp only [zmax_len]; exact a2, by simp only [zmax_len]; exact a3, ?_, ?_⟩
      · rw [Val.ext_iff] at a1 ⊢
        simp only [cntV] at a1 ⊢
        exact ⟨trivial, a1.2.1, a1.2.2.1, a1.2.2.2.1, a1.2.2.2.2.1, trivial, trivial, a1.2.2.2.2.2.2.2⟩
      · simp only [List.any_eq_false, decide_eq_true_eq]
        intro x hx
        rcases zmax_mem hx with h | h
        · exact a4 x h
        · exact b4 x h
      · simp only [List.any_eq_false, decide_eq_true_eq]
        intro x hx
        rcases zmax_mem hx with h | h
        · exact a5 x h
        · exact b5 x h
    · rename_i h1 h2
      have fa : a.kind = 3 ∧ a = flgV a := by rcases ha with h3 | h3 | h3 <;> first | exact h3 | (exfalso; have := h3.1; omega)
      refine .inr (.inr ⟨fa.1, ?_⟩)
      have a1 := fa.2
      rw [Val.ext_iff] at a1 ⊢
      simp only [flgV] at a1 ⊢
      exact ⟨trivial, a1.2.1, a1.2.2.1, a1.2.2.2.1, a1.2.2.2.2.1, a1.2.2.2.2.2.1, a1.2.2.2.2.2.2.1, trivial⟩
theorem joinE_ok {a b : Ent} (ha : entOk a) (hb : entOk b) (h : named a b) : entOk (joinE a b) := ⟨ha.1, ha.2.1, joinV_ok ha.2.2 hb.2.2 h.1⟩
theorem joinE_named {a b : Ent} (h : named a b) : named (joinE a b) a := ⟨joinV_kind h.1, rfl⟩
/-! ### An arena is joined with an entry -/
def findE (l : List Ent) (e : Ent) : Option Nat := l.findIdx? fun x => decide (named x e)
def putE (a : Ar) (e : Ent) : Ar :=
  match findE a.slots e with
  | none => ⟨a.cap, a.slots ++ [joinE e e], (idx (a.slots ++ [joinE e e])).map fun k : Nat => (k : Int)⟩
  | some i => ⟨a.cap, a.slots.set i (joinE (a.slots.getD i e) e), a.index⟩
/-- What is told of it: 0; 2: it is none; 4: there is no room. -/
def putN (a : Ar) (e : Ent) : Int := if ¬ (arOk a ∧ entOk e) then 2 else if findE a.slots e = none ∧ (a.slots.length : Int) = a.cap then 4 else 0
def putC (a : Ar) (e : Ent) : Bool := match findE a.slots e with | none => true | some i => decide (joinE (a.slots.getD i e) e ≠ a.slots.getD i e)
def joinA (a : Ar) (e : Ent) : Ar := if putN a e = 0 then putE a e else a
def joinC (a : Ar) (e : Ent) : Bool := if putN a e = 0 then putC a e else false
def mergeA (a : Ar) : List Ent → Ar
  | [] => a
  | e :: l => mergeA (joinA a e) l
theorem findE_some {l : List Ent} {e : Ent} {i : Nat} (h : findE l e = some i) : ∃ x, l[i]? = some x ∧ named x e := by
  unfold findE at h
  obtain ⟨h1, h2, _⟩ := List.findIdx?_eq_some_iff_getElem.1 h
  exact ⟨_, List.getElem?_eq_getElem h1, by simpa using h2⟩
theorem findE_none {l : List Ent} {e : Ent} (h : findE l e = none) : ∀ x ∈ l, ¬ named x e := by
  unfold findE at h
  rw [List.findIdx?_eq_none_iff] at h
  intro x hx
  simpa using h x hx
theorem named.symm {a b : Ent} (h : named a b) : named b a := ⟨h.1.symm, h.2.symm⟩
theorem named.trans {a b c : Ent} (h : named a b) (k : named b c) : named a c := ⟨h.1.trans k.1, h.2.trans k.2⟩
theorem named.refl (a : Ent) : named a a := ⟨rfl, rfl⟩
theorem put_ok {a : Ar} {e : Ent} (h : putN a e = 0) : arOk a ∧ entOk e ∧ arOk (putE a e) := by
  unfold putN at h
  split at h
  · omega
  rename_i h0
  simp only [Classical.not_not] at h0
  obtain ⟨ha, he⟩ := h0
  split at h
  · omega
  rename_i hroom
  refine ⟨ha, he, ?_⟩
  obtain ⟨a1, a2, a3, a4, a5, a6⟩ := ha
  have hd := dist_of_srtd a5
  have hje := joinE_ok he he (named.refl e)
  unfold putE
  cases hf : findE a.slots e with
  | none =>
    simp only
    have hn := findE_none hf
    refine ⟨a1, a2, ?_, ?_, ?_, rfl⟩
    · simp only [List.length_append, List.length_singleton]
      have : ¬ (a.slots.length : Int) = a.cap := fun h => hroom ⟨hf, h⟩
      omega
    · intro x hx
      rcases List.mem_append.1 hx with hx | hx
      · exact a4 x hx
      · rw [List.mem_singleton.1 hx]; exact hje
    · apply srtd_of_dist
      unfold dist
      rw [List.pairwise_append]
      refine ⟨hd, by simp, fun x hx y hy => ?_⟩
      rw [List.mem_singleton.1 hy]
      intro hxy
      exact hn x hx (hxy.trans (joinE_named (named.refl e)))
  | some i =>
    simp only
    obtain ⟨x, hx, hxe⟩ := findE_some hf
    have hg : a.slots.getD i e = x := by rw [List.getD_eq_getElem?_getD, hx]; rfl
    rw [hg]
    have hxm := List.mem_of_getElem? hx
    have hnm : named (joinE x e) x := joinE_named hxe
    have hpt : ∀ (k : Nat) (y z : Ent), (a.slots.set i (joinE x e))[k]? = some y → a.slots[k]? = some z → named y z := by
      intro k y z hy hz
      rw [List.getElem?_set] at hy
      split at hy
      · rename_i hik
        subst hik
        split at hy
        · injection hy with hy; subst hy; rw [hx] at hz; injection hz with hz; subst hz; exact hnm
        · cases hy
      · rw [hy] at hz; injection hz with hz; subst hz; exact named.refl _
    have hix : idx (a.slots.set i (joinE x e)) = idx a.slots := idx_congr (by simp) hpt
    refine ⟨a1, a2, by simpa using a3, ?_, ?_, ?_⟩
    · intro y hy
      rcases List.mem_or_eq_of_mem_set hy with hy | rfl
      · exact a4 y hy
      · exact joinE_ok (a4 x hxm) he hxe
    · apply srtd_of_dist
      refine List.pairwise_iff_getElem.2 fun p q hp hq hpq hn => ?_
      simp only [List.length_set] at hp hq
      have e1 := hpt p _ _ (List.getElem?_eq_getElem (by simpa using hp)) (List.getElem?_eq_getElem hp)
      have e2 := hpt q _ _ (List.getElem?_eq_getElem (by simpa using hq)) (List.getElem?_eq_getElem hq)
      exact List.pairwise_iff_getElem.1 hd p q hp hq hpq (e1.symm.trans (hn.trans e2))
    · show (idx (a.slots.set i (joinE x e))).map _ = a.index
      rw [hix]; exact a6
theorem joinA_ok {a : Ar} (e : Ent) (h : arOk a) : arOk (joinA a e) := by
  unfold joinA
  split
  · exact (put_ok ‹_›).2.2
  · exact h
theorem mergeA_ok : ∀ (l : List Ent) (a : Ar), arOk a → arOk (mergeA a l)
  | [], _, h => h
  | e :: l, a, h => mergeA_ok l (joinA a e) (joinA_ok e h)
theorem joinA_len (a : Ar) (e : Ent) : a.slots.length ≤ (joinA a e).slots.length := by
  unfold joinA putE
  split
  · split <;> simp
  · exact Nat.le_refl _
theorem mergeA_len : ∀ (l : List Ent) (a : Ar), a.slots.length ≤ (mergeA a l).slots.length
  | [], _ => Nat.le_refl _
  | e :: l, a => Nat.le_trans (joinA_len a e) (mergeA_len l (joinA a e))
end Go.Proofs.YtmjpidjdbofdjaaGreat

