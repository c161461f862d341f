import Derived.Test.YtmjpidjdbofdjaaGreatXs
/- Plain law: what is wanted is a frame. Plain law: arenas that are merged, by their look-ups. Plain law: behind three frames. Plain law: arenas of one entry; where a slot is found. -/
set_option linter.unusedVariables false
set_option linter.unusedSimpArgs false
namespace Go.Proofs.YtmjpidjdbofdjaaGreat
open Go Go.Sy
theorem stT {p : Prop} [Decidable p] (h : p) : SV.v (.bool (decide p)) = sb true := by rw [decide_eq_true h]; rfl
theorem inS_sub (mask most : Int) : ∀ (l : List Ent), (inS l mask most).Sublist l := by
  intro l
  suffices h : ∀ (l o p : List Ent), o.Sublist p → (l.foldl (fun o e => if askd mask (bk e.val.kind e.key) ∧ (o.length : Int) < most then o ++ [e] else o) o).Sublist (p ++ l) by
    have := h l [] [] (List.Sublist.refl _)
    rw [List.nil_append] at this
    exact this
  intro l
  induction l with
  | nil => intro o p h; simpa using h
  | cons e r ih =>
    intro o p h
    simp only [List.foldl_cons]
    rw [show p ++ e :: r = (p ++ [e]) ++ r by simp]
    apply ih
    split
    · exact h.append (List.Sublist.refl _)
    · exact h.trans (List.sublist_append_left _ _)
theorem inS_most {mask most : Int} (h0 : 0 ≤ most) : ∀ (l : List Ent), ((inS l mask most).length : Int) ≤ most := by
  intro l
  suffices h : ∀ (l o : List Ent), (o.length : Int) ≤ most → ((l.foldl (fun o e => if askd mask (bk e.val.kind e.key) ∧ (o.length : Int) < most then o ++ [e] else o) o).length : Int) ≤ most by
    exact h l [] (by simpa using h0)
  intro l
  induction l with
  | nil => intro o h; exact h
  | cons e r ih =>
    intro o h
    simp only [List.foldl_cons]
    apply ih
    split
    · rename_i hq; simp only [List.length_append, List.length_singleton]; have := hq.2; omega
    · exact h
theorem slotsOf_le (a : Ar) : (slotsOf a).length ≤ 8 := by
  unfold slotsOf
  split
  · rename_i h; have h1 := h.2.1; have h2 := h.2.2.1; omega
  · simp
theorem slotsOf_ok (a : Ar) {e : Ent} (h : e ∈ slotsOf a) : entOk e := by
  unfold slotsOf at h
  split at h
  · rename_i hk; exact hk.2.2.2.1 e h
  · cases h
theorem inF_le (a : Ar) (mask most : Int) : (inF a mask most).length ≤ 8 := Nat.le_trans (inS_sub mask most (slotsOf a)).length_le (slotsOf_le a)
theorem inF_ok (a : Ar) (mask most : Int) {e : Ent} (h : e ∈ inF a mask most) : entOk e := slotsOf_ok a ((inS_sub mask most (slotsOf a)).subset h)
theorem dif_bd (a b c d a' b' c' d' : Int) : 0 ≤ dif a b c d a' b' c' d' ∧ dif a b c d a' b' c' d' ≤ 15 := by
  unfold dif
  split <;> split <;> split <;> split <;> omega
theorem ite_symm (x y n : Int) : (if x = y then (0 : Int) else n) = if y = x then 0 else n := by split <;> split <;> omega
theorem dif_symm (a b c d a' b' c' d' : Int) : dif a b c d a' b' c' d' = dif a' b' c' d' a b c d := by
  unfold dif
  rw [ite_symm a a', ite_symm b b', ite_symm c c', ite_symm d d']
theorem oct0 : octOk 0 := by decide
theorem wantF_ok {a : Ar} {f : Fra} {chunk : Int} (h : wantB a f chunk) : frOk (wantF a f chunk) := by
  unfold wantF
  rw [if_pos h]
  have hb := dif_bd (smF a 0) (smF a 1) (smF a 2) (smF a 3) f.l0 f.l1 f.l2 f.l3
  have hm : 1 ≤ mskF a f ∧ mskF a f ≤ 15 := by have := h.2; unfold mskF at *; omega
  refine .inr (.inr (.inr (.inl ⟨rfl, ?_⟩)))
  have hl := inF_le a (mskF a f) chunk
  exact ⟨⟨oct0, oct0, oct0, oct0⟩, hm.1, hm.2, Int.le_refl _, Int.le_refl _, rfl, by show ((inF a (mskF a f) chunk).length : Int) ≤ 8; omega, fun e he => inF_ok a _ _ he⟩
theorem giveF_ok {a : Ar} {f : Fra} {chunk : Int} (h : giveB a f chunk) : frOk (giveF a f chunk) := by
  unfold giveF
  rw [if_pos h]
  have hl := inF_le a f.a chunk
  refine .inr (.inr (.inr (.inr (.inl ⟨rfl, ?_⟩))))
  exact ⟨⟨oct0, oct0, oct0, oct0⟩, Int.le_refl _, Int.le_refl _, Int.le_refl _, Int.le_refl _, rfl, by show ((inF a f.a chunk).length : Int) ≤ 8; omega, fun e he => inF_ok a _ _ he⟩
theorem wantF_bd (a : Ar) (f : Fra) (chunk : Int) : (wantF a f chunk).bd := by
  unfold wantF
  split
  · exact ⟨fun e he => (inF_ok a _ _ he).bd, by have := inF_le a (mskF a f) chunk; show (inF a (mskF a f) chunk).length < _; omega⟩
  · exact ⟨fun e he => by simp [FZ] at he, by simp [FZ]⟩
end Go.Proofs.YtmjpidjdbofdjaaGreat
namespace Go.Proofs.YtmjpidjdbofdjaaGreat
open Go Go.Sy
def Ent.fw (e : Ent) : Prop := 0 ≤ e.val.flags ∧ e.val.flags < 18446744073709551616
def Ar.fw (a : Ar) : Prop := ∀ e ∈ a.slots, e.fw
theorem or_nat (x y : Int) : bitI .or .u64 x y = (((BitVec.ofInt 64 x) ||| (BitVec.ofInt 64 y)).toNat : Int) := by
  have h : (BitVec.ofInt 64 x ||| BitVec.ofInt 64 y).toNat < 2 ^ 64 := (BitVec.ofInt 64 x ||| BitVec.ofInt 64 y).isLt
  show IntKind.wrap .u64 (((BitVec.ofInt 64 x ||| BitVec.ofInt 64 y).toNat : Nat) : Int) = _
  generalize (BitVec.ofInt 64 x ||| BitVec.ofInt 64 y).toNat = n at *
  rw [show IntKind.wrap .u64 (n : Int) = (n : Int) % 18446744073709551616 from rfl]
  omega
theorem or_ofInt (x y : Int) : BitVec.ofInt 64 (bitI .or .u64 x y) = BitVec.ofInt 64 x ||| BitVec.ofInt 64 y := by
  rw [or_nat, BitVec.ofInt_natCast, BitVec.ofNat_toNat, BitVec.setWidth_eq]
theorem or_idem {x : Int} (h0 : 0 ≤ x) (h1 : x < 18446744073709551616) : bitI .or .u64 x x = x := by
  rw [or_nat, BitVec.or_self, BitVec.toNat_ofInt]
  omega
theorem or_abs (x y : Int) : bitI .or .u64 x (bitI .or .u64 x y) = bitI .or .u64 x y := by
  rw [or_nat, or_ofInt, ← BitVec.or_assoc, BitVec.or_self, ← or_nat]
theorem zmax_abs : ∀ {r s : List Int}, r.length = s.length → zmax r (zmax r s) = zmax r s := by
  intro r s h
  rw [← zmax_assoc rfl h, zmax_idem]
theorem regLt_self (a : Val) : regLt a a = false := by
  cases h : regLt a a
  · rfl
  · exact absurd (regLt_asym h) (by rw [h]; simp)
theorem joinV_idem {a : Val} (h0 : 0 ≤ a.flags) (h1 : a.flags < 18446744073709551616) : joinV a a = a := by
  unfold joinV
  split
  · rw [regLt_self]; rfl
  · split
    · rw [zmax_idem, zmax_idem]
    · rw [or_idem h0 h1]
theorem joinE_idem {e : Ent} (h : e.fw) : joinE e e = e := by
  unfold joinE
  rw [joinV_idem h.1 h.2]
theorem joinV_abs {a b : Val} (ha : valOk a) (hb : valOk b) (h : a.kind = b.kind) : joinV a (joinV a b) = joinV a b := by
  by_cases h1 : a.kind = 1
  · unfold joinV
    rw [if_pos h1, if_pos h1]
    by_cases hr : regLt a b = true
    · rw [if_pos hr, if_pos hr]
    · rw [if_neg hr, if_neg (by rw [regLt_self]; simp)]
  · by_cases h2 : a.kind = 2
    · have ca := cntOf ha h2
      have cb := cntOf hb (h ▸ h2)
      unfold joinV
      rw [if_neg h1, if_neg h1, if_pos h2, if_pos h2]
      have e1 : a.plus.length = b.plus.length := by rw [ca.2.1, cb.2.1]
      have e2 : a.minus.length = b.minus.length := by rw [ca.2.2.1, cb.2.2.1]
      simp only [zmax_abs e1, zmax_abs e2]
    · unfold joinV
      rw [if_neg h1, if_neg h1, if_neg h2, if_neg h2]
      simp only [or_abs]
theorem joinE_abs {a b : Ent} (ha : entOk a) (hb : entOk b) (h : named a b) : joinE a (joinE a b) = joinE a b := by
  unfold joinE
  rw [joinV_abs ha.2.2 hb.2.2 h.1]
theorem joinE_comm {a b : Ent} (ha : entOk a) (hb : entOk b) (h : named a b) : joinE a b = joinE b a := by
  unfold joinE
  rw [joinV_comm ha.2.2 hb.2.2 h.1, h.2]
/-- The entry of a name. -/
def lk (l : List Ent) (n : Ent) : Option Ent := l.find? fun x => decide (named x n)
theorem lk_some {l : List Ent} {n x : Ent} (h : lk l n = some x) : x ∈ l ∧ named x n := by
  unfold lk at h
  exact ⟨List.mem_of_find?_eq_some h, by simpa using List.find?_some h⟩
theorem lk_none {l : List Ent} {n : Ent} : lk l n = none ↔ ∀ x ∈ l, ¬ named x n := by
  unfold lk
  rw [List.find?_eq_none]
  simp
theorem lk_mem {l : List Ent} (h : dist l) {x n : Ent} (hx : x ∈ l) (hn : named x n) : lk l n = some x := by
  cases hk : lk l n with
  | none => exact absurd hn (lk_none.1 hk x hx)
  | some y =>
    obtain ⟨h1, h2⟩ := lk_some hk
    rw [dist_eq h h1 hx (h2.trans hn.symm)]
theorem lk_congr {l : List Ent} {n m : Ent} (h : named n m) : lk l n = lk l m := by
  unfold lk
  congr 1
  funext x
  exact decide_eq_decide.2 ⟨fun k => k.trans h, fun k => k.trans h.symm⟩
theorem lk_cons (e : Ent) (r : List Ent) (n : Ent) : lk (e :: r) n = if named e n then some e else lk r n := by
  unfold lk
  rw [List.find?_cons]
  by_cases h : named e n
  · rw [if_pos h, decide_eq_true h]
  · rw [if_neg h, decide_eq_false h]
theorem arOk.dist {a : Ar} (h : arOk a) : dist a.slots := dist_of_srtd h.2.2.2.2.1
theorem arOk.ent {a : Ar} (h : arOk a) {e : Ent} (he : e ∈ a.slots) : entOk e := h.2.2.2.1 e he
/-- What stands at a name, joined with an entry. -/
def jo : Option Ent → Ent → Ent
  | none, e => joinE e e
  | some x, e => joinE x e
theorem lk_put {a : Ar} {e : Ent} (h : putN a e = 0) (n : Ent) : lk (putE a e).slots n = if named e n then some (jo (lk a.slots e) e) else lk a.slots n := by
  obtain ⟨ha, he, hb⟩ := put_ok h
  have hd := hb.dist
  have hda := ha.dist
  revert hd
  unfold putE
  cases hf : findE a.slots e with
  | none =>
    intro hd
    simp only at hd ⊢
    have hn := findE_none hf
    rw [lk_none.2 hn]
    by_cases hen : named e n
    · rw [if_pos hen]
      exact lk_mem hd (List.mem_append_right _ (List.mem_singleton.2 rfl)) ((joinE_named (named.refl e)).trans hen)
    · rw [if_neg hen]
      cases hk : lk a.slots n with
      | none =>
        rw [lk_none] at hk ⊢
        intro x hx
        rcases List.mem_append.1 hx with hx | hx
        · exact hk x hx
        · rw [List.mem_singleton.1 hx]
          exact fun hq => hen ((joinE_named (named.refl e)).symm.trans hq)
      | some x =>
        obtain ⟨h1, h2⟩ := lk_some hk
        exact lk_mem hd (List.mem_append_left _ h1) h2
  | some i =>
    intro hd
    simp only at hd ⊢
    obtain ⟨x, hx, hxe⟩ := findE_some hf
    have hg : a.slots.getD i e = x := by rw [List.getD_eq_getElem?_getD, hx]; rfl
    rw [hg] at hd ⊢
    have hxm := List.mem_of_getElem? hx
    have hil := (List.getElem?_eq_some_iff.1 hx).1
    have hjm : joinE x e ∈ a.slots.set i (joinE x e) := List.mem_iff_getElem.2 ⟨i, by simpa using hil, by simp⟩
    rw [lk_mem hda hxm hxe]
    by_cases hen : named e n
    · rw [if_pos hen]
      exact lk_mem hd hjm ((joinE_named hxe).trans (hxe.trans hen))
    · rw [if_neg hen]
      cases hk : lk a.slots n with
      | none =>
        rw [lk_none] at hk ⊢
        intro y hy
        rcases List.mem_or_eq_of_mem_set hy with hy | rfl
        · exact hk y hy
        · exact fun hq => hen (hxe.symm.trans ((joinE_named hxe).symm.trans hq))
      | some y =>
        obtain ⟨h1, h2⟩ := lk_some hk
        refine lk_mem hd ?_ h2
        obtain ⟨j, hj, rfl⟩ := List.mem_iff_getElem.1 h1
        refine List.mem_iff_getElem.2 ⟨j, by simpa using hj, ?_⟩
        rw [List.getElem_set_ne]
        rintro rfl
        rw [List.getElem?_eq_getElem hj] at hx
        injection hx with hx
        subst hx
        exact hen (hxe.symm.trans h2)
/-- No entry is refused. -/
def noRef (a : Ar) : List Ent → Prop
  | [] => True
  | e :: r => putN a e = 0 ∧ noRef (putE a e) r
theorem mrg_fold : ∀ (l : List Ent) (a : Ar) (c d : Nat), ((l.foldl mstep (a, c, d)).2.2 = d → noRef a l) ∧ d ≤ (l.foldl mstep (a, c, d)).2.2 ∧ (noRef a l → (l.foldl mstep (a, c, d)).2.2 = d) ∧ (l.foldl mstep (a, c, d)).1 = mergeA a l
  | [], a, c, d => ⟨fun _ => trivial, Nat.le_refl _, fun _ => rfl, rfl⟩
  | e :: r, a, c, d => by
    simp only [List.foldl_cons, mstep]
    by_cases h : putN a e = 0
    · have ej : joinA a e = putE a e := by unfold joinA; rw [if_pos h]
      rw [show (if putN a e ≠ 0 then d + 1 else d) = d from if_neg (fun hq => hq h)]
      obtain ⟨h1, h2, h3, h4⟩ := mrg_fold r (joinA a e) (if joinC a e = true then c + 1 else c) d
      refine ⟨fun hq => ⟨h, ej ▸ h1 hq⟩, h2, fun hq => h3 (ej ▸ hq.2), h4⟩
    · rw [show (if putN a e ≠ 0 then d + 1 else d) = d + 1 from if_pos h]
      obtain ⟨h1, h2, h3, h4⟩ := mrg_fold r (joinA a e) (if joinC a e = true then c + 1 else c) (d + 1)
      exact ⟨fun hq => by omega, by omega, fun hq => absurd hq.1 h, h4⟩
theorem mrg_ref {a : Ar} {l : List Ent} : (mrg a l).2.2 = 0 ↔ noRef a l := ⟨(mrg_fold l a 0 0).1, (mrg_fold l a 0 0).2.2.1⟩
theorem mrg_is (a : Ar) (l : List Ent) : (mrg a l).1 = mergeA a l := (mrg_fold l a 0 0).2.2.2
theorem lk_merge : ∀ (l : List Ent) (a : Ar), noRef a l → dist l → ∀ n, lk (mergeA a l).slots n = match lk l n with
    | some e => some (jo (lk a.slots n) e)
    | none => lk a.slots n
  | [], a, _, _, n => rfl
  | e :: r, a, h, hd, n => by
    unfold dist at hd
    rw [List.pairwise_cons] at hd
    show lk (mergeA (joinA a e) r).slots n = _
    rw [show joinA a e = putE a e by unfold joinA; rw [if_pos h.1], lk_merge r (putE a e) h.2 hd.2 n, lk_cons, lk_put h.1]
    by_cases hen : named e n
    · have hr : lk r n = none := lk_none.2 fun x hx hq => hd.1 x hx (hen.trans hq.symm)
      rw [if_pos hen, if_pos hen, hr]
      simp only
      rw [lk_congr hen]
    · rw [if_neg hen, if_neg hen]
/-- As many names. -/
theorem names_le : ∀ {l m : List Ent}, dist l → (∀ x ∈ l, ∃ y ∈ m, named y x) → l.length ≤ m.length
  | [], _, _, _ => by simp
  | x :: r, m, h, k => by
    unfold dist at h
    rw [List.pairwise_cons] at h
    obtain ⟨y, hy, hn⟩ := k x (List.mem_cons_self ..)
    have := names_le (l := r) (m := m.erase y) h.2 fun z hz => by
      obtain ⟨w, hw, hwn⟩ := k z (List.mem_cons_of_mem _ hz)
      refine ⟨w, ?_, hwn⟩
      rw [List.mem_erase_of_ne]
      · exact hw
      · rintro rfl
        exact h.1 z hz (hn.symm.trans hwn)
    rw [List.length_erase_of_mem hy] at this
    have : 0 < m.length := List.length_pos_of_mem hy
    simp only [List.length_cons]
    omega
def under (b a : Ar) : Prop := arOk b ∧ b.cap = a.cap ∧ ∀ x ∈ b.slots, ∃ y ∈ a.slots, named y x
theorem put_cap (a : Ar) (e : Ent) : (putE a e).cap = a.cap := by unfold putE; split <;> rfl
theorem put_old {a : Ar} {e : Ent} (h : putN a e = 0) {x : Ent} (hx : x ∈ a.slots) : ∃ y ∈ (putE a e).slots, named y x := by
  have hl := lk_put h x
  have ha := (put_ok h).1.dist
  rw [lk_mem ha hx (named.refl x)] at hl
  by_cases hen : named e x
  · rw [if_pos hen] at hl
    exact ⟨_, lk_some hl⟩
  · rw [if_neg hen] at hl
    exact ⟨_, lk_some hl⟩
theorem put_new {a : Ar} {e : Ent} (h : putN a e = 0) : ∃ y ∈ (putE a e).slots, named y e := by
  have hl := lk_put h e
  rw [if_pos (named.refl e)] at hl
  exact ⟨_, lk_some hl⟩
theorem put_of {a : Ar} {e : Ent} (h : putN a e = 0) {y : Ent} (hy : y ∈ (putE a e).slots) : named e y ∨ ∃ x ∈ a.slots, named x y := by
  have hl := lk_put h y
  rw [lk_mem (put_ok h).2.2.dist hy (named.refl y)] at hl
  by_cases hen : named e y
  · exact .inl hen
  · rw [if_neg hen] at hl
    exact .inr ⟨_, lk_some hl.symm⟩
theorem noRef_sub {l l' : List Ent} (hs : l'.Sublist l) : ∀ {a b : Ar}, noRef a l → under b a → noRef b l' := by
  induction hs with
  | slnil => intro a b _ _; trivial
  | @cons s t e hs ih =>
    intro a b h hu
    refine ih h.2 ⟨hu.1, by rw [put_cap]; exact hu.2.1, fun x hx => ?_⟩
    obtain ⟨y, hy, hn⟩ := hu.2.2 x hx
    obtain ⟨z, hz, hzn⟩ := put_old h.1 hy
    exact ⟨z, hz, hzn.trans hn⟩
  | @cons_cons s t e hs ih =>
    intro a b h hu
    obtain ⟨ha, he, hp⟩ := put_ok h.1
    have h0 : putN b e = 0 := by
      unfold putN
      rw [if_neg (fun hq => hq ⟨hu.1, he⟩), if_neg]
      rintro ⟨hf, hfull⟩
      have hn := findE_none hf
      have hle := names_le (l := e :: b.slots) (m := (putE a e).slots) (by unfold dist; rw [List.pairwise_cons]; exact ⟨fun x hx hq => hn x hx hq.symm, hu.1.dist⟩) fun x hx => by
        rcases List.mem_cons.1 hx with rfl | hx
        · exact put_new h.1
        · obtain ⟨y, hy, hyn⟩ := hu.2.2 x hx
          obtain ⟨z, hz, hzn⟩ := put_old h.1 hy
          exact ⟨z, hz, hzn.trans hyn⟩
      have hc := hp.2.2.1
      rw [put_cap] at hc
      have := hu.2.1
      simp only [List.length_cons] at hle
      omega
    refine ⟨h0, ih h.2 ⟨(put_ok h0).2.2, by rw [put_cap, put_cap]; exact hu.2.1, fun y hy => ?_⟩⟩
    rcases put_of h0 hy with hq | ⟨x, hx, hxy⟩
    · obtain ⟨z, hz, hzn⟩ := put_new h.1
      exact ⟨z, hz, hzn.trans hq⟩
    · obtain ⟨w, hw, hwn⟩ := hu.2.2 x hx
      obtain ⟨z, hz, hzn⟩ := put_old h.1 hw
      exact ⟨z, hz, hzn.trans (hwn.trans hxy)⟩
theorem under_self {a : Ar} (h : arOk a) : under a a := ⟨h, rfl, fun x hx => ⟨x, hx, named.refl x⟩⟩
end Go.Proofs.YtmjpidjdbofdjaaGreat
namespace Go.Proofs.YtmjpidjdbofdjaaGreat
open Go Go.Sy
theorem smN_filter (l : List Ent) (j : Int) : smN (l.filter fun e => decide (bk e.val.kind e.key = j)) j = smN l j := by
  unfold smN
  rw [List.foldl_filter]
  congr 1
  funext n e
  by_cases h : bk e.val.kind e.key = j <;> simp [h]
theorem smS_same {l m : List Ent} (hl : dist l) (hm : dist m) (j : Int) (h : ∀ e, bk e.val.kind e.key = j → (e ∈ l ↔ e ∈ m)) : smS l j = smS m j := by
  rw [smS_eq, smS_eq, ← smN_filter l, ← smN_filter m, smN_perm (perm_of_mem ((dist_nodup hl).filter _) ((dist_nodup hm).filter _) fun e => ?_)]
  simp only [List.mem_filter, decide_eq_true_eq]
  exact ⟨fun ⟨h1, h2⟩ => ⟨(h e h2).1 h1, h2⟩, fun ⟨h1, h2⟩ => ⟨(h e h2).2 h1, h2⟩⟩
theorem mem_lk {l : List Ent} (h : dist l) {e : Ent} : e ∈ l ↔ lk l e = some e := ⟨fun h1 => lk_mem h h1 (named.refl e), fun h1 => (lk_some h1).1⟩
instance (mask b : Int) : Decidable (askd mask b) := by unfold askd; infer_instance
/-- What is asked for: by the name alone. -/
def inM (mask : Int) (e : Ent) : Bool := decide (askd mask (bk e.val.kind e.key))
theorem inM_congr {mask : Int} {e n : Ent} (h : named e n) : inM mask e = inM mask n := by
  unfold inM
  rw [h.1, h.2]
theorem inS_all (mask most : Int) (l : List Ent) (h : (l.length : Int) ≤ most) : inS l mask most = l.filter (inM mask) := by
  suffices g : ∀ (l o : List Ent), (o.length : Int) + l.length ≤ most → l.foldl (fun o e => if askd mask (bk e.val.kind e.key) ∧ (o.length : Int) < most then o ++ [e] else o) o = o ++ l.filter (inM mask) by
    have := g l [] (by simpa using h)
    rw [List.nil_append] at this
    exact this
  intro l
  induction l with
  | nil => intro o _; simp
  | cons e r ih =>
    intro o ho
    simp only [List.length_cons] at ho
    simp only [List.foldl_cons]
    by_cases h1 : askd mask (bk e.val.kind e.key)
    · rw [if_pos ⟨h1, by omega⟩, ih _ (by simp only [List.length_append, List.length_singleton]; omega), List.filter_cons, if_pos (by unfold inM; rw [decide_eq_true h1])]
      simp
    · rw [if_neg (fun hq => h1 hq.1), ih _ (by omega), List.filter_cons, if_neg (by unfold inM; rw [decide_eq_false h1]; simp)]
theorem inF_all {a : Ar} (h : arOk a) (mask : Int) : inF a mask 8 = a.slots.filter (inM mask) := by
  unfold inF slotsOf
  rw [if_pos h]
  have h1 := h.2.1
  have h2 := h.2.2.1
  exact inS_all mask 8 _ (by omega)
theorem lk_filter (mask : Int) (l : List Ent) (n : Ent) : lk (l.filter (inM mask)) n = if inM mask n = true then lk l n else none := by
  induction l with
  | nil => simp [lk]
  | cons e r ih =>
    rw [List.filter_cons]
    by_cases hen : named e n
    · by_cases h : inM mask n = true
      · rw [if_pos (by rw [inM_congr hen]; exact h), lk_cons, lk_cons, if_pos hen, if_pos hen, if_pos h]
      · rw [if_neg (by rw [inM_congr hen]; exact h), ih, if_neg h, if_neg h]
    · by_cases h : inM mask e = true
      · rw [if_pos h, lk_cons, lk_cons, if_neg hen, if_neg hen, ih]
      · rw [if_neg h, ih, lk_cons, if_neg hen]
theorem dist_sub {l m : List Ent} (h : l.Sublist m) (hm : dist m) : dist l := List.Pairwise.sublist h hm
theorem joinV_fw {a b : Val} (h0 : 0 ≤ a.flags ∧ a.flags < 18446744073709551616) (h1 : 0 ≤ b.flags ∧ b.flags < 18446744073709551616) : 0 ≤ (joinV a b).flags ∧ (joinV a b).flags < 18446744073709551616 := by
  unfold joinV
  split
  · split
    · exact h1
    · exact h0
  · split
    · exact h0
    · simp only
      rw [or_nat]
      have := (BitVec.ofInt 64 a.flags ||| BitVec.ofInt 64 b.flags).isLt
      omega
theorem putE_fw {a : Ar} {e : Ent} (ha : a.fw) (he : e.fw) : (putE a e).fw := by
  unfold putE
  split
  · intro x hx
    rcases List.mem_append.1 hx with hx | hx
    · exact ha x hx
    · rw [List.mem_singleton.1 hx]; exact joinV_fw he he
  · intro x hx
    rcases List.mem_or_eq_of_mem_set hx with hx | rfl
    · exact ha x hx
    · refine joinV_fw ?_ he
      rw [List.getD_eq_getElem?_getD]
      cases hq : a.slots[‹Nat›]? with
      | none => exact he
      | some y => exact ha y (List.mem_of_getElem? hq)
theorem mergeA_fw : ∀ (l : List Ent) (a : Ar), a.fw → (∀ e ∈ l, e.fw) → (mergeA a l).fw
  | [], _, h, _ => h
  | e :: r, a, h, k => mergeA_fw r (joinA a e) (by
      unfold joinA
      split
      · exact putE_fw h (k e (List.mem_cons_self ..))
      · exact h) fun x hx => k x (List.mem_cons_of_mem _ hx)
theorem bl1_of {l : List Ent} (h : dist l) {e y : Ent} (hl : lk l e = some y) (hj : joinE e y = y) : bl1 l e = true := by
  obtain ⟨hy, hn⟩ := lk_some hl
  unfold bl1
  cases hfi : l.findIdx? (isN e.val.kind e.key) with
  | none =>
    rw [List.findIdx?_eq_none_iff] at hfi
    have := hfi y hy
    unfold isN at this
    exact absurd hn (by simpa [named] using this)
  | some j =>
    obtain ⟨hjl, hjp, _⟩ := List.findIdx?_eq_some_iff_getElem.1 hfi
    unfold isN at hjp
    simp only [decide_eq_true_eq] at hjp
    have : l[j] = y := dist_eq h (List.getElem_mem hjl) hy ((show named l[j] e from hjp).trans hn.symm)
    simp only [List.getElem?_eq_getElem hjl, this, decide_eq_true_eq]
    exact hj
/-- Two arenas that are merged, there, and here, where all have room. -/
structure Two (a b : Ar) : Prop where
  oa : arOk a
  ob : arOk b
  fa : a.fw
  fb : b.fw
  ra : noRef a b.slots
  rb : noRef b a.slots
theorem Two.symm {a b : Ar} (h : Two a b) : Two b a := ⟨h.ob, h.oa, h.fb, h.fa, h.rb, h.ra⟩
theorem Two.noRef {a b : Ar} (h : Two a b) (mask : Int) : noRef a (b.slots.filter (inM mask)) := noRef_sub (List.filter_sublist ..) h.ra (under_self h.oa)
theorem Two.okC {a b : Ar} (h : Two a b) (l : List Ent) : arOk (mergeA a l) := mergeA_ok _ _ h.oa
theorem Two.lkJ {a b : Ar} (h : Two a b) (n : Ent) : lk (mergeA a b.slots).slots n = match lk b.slots n with
    | some e => some (jo (lk a.slots n) e)
    | none => lk a.slots n := lk_merge _ _ h.ra h.ob.dist n
theorem Two.lkC {a b : Ar} (h : Two a b) (mask : Int) (n : Ent) : lk (mergeA a (b.slots.filter (inM mask))).slots n = if inM mask n = true then lk (mergeA a b.slots).slots n else lk a.slots n := by
  rw [lk_merge _ _ (h.noRef mask) (dist_sub (List.filter_sublist ..) h.ob.dist) n, lk_filter, h.lkJ]
  by_cases hm : inM mask n = true
  · rw [if_pos hm, if_pos hm]
    all_goals (cases lk b.slots n <;> rfl)
  · rw [if_neg hm, if_neg hm]
theorem Two.comm {a b : Ar} (h : Two a b) (n : Ent) : lk (mergeA a b.slots).slots n = lk (mergeA b a.slots).slots n := by
  rw [h.lkJ, h.symm.lkJ]
  cases ha : lk a.slots n with
  | none =>
    cases hb : lk b.slots n with
    | none => rfl
    | some y => simp only [jo]; rw [joinE_idem (h.fb y (lk_some hb).1)]
  | some x =>
    cases hb : lk b.slots n with
    | none => simp only [jo]; rw [joinE_idem (h.fa x (lk_some ha).1)]
    | some y =>
      simp only [jo]
      obtain ⟨h1, h2⟩ := lk_some ha
      obtain ⟨h3, h4⟩ := lk_some hb
      rw [joinE_comm (h.oa.ent h1) (h.ob.ent h3) (h2.trans h4.symm)]
theorem Two.below {a b : Ar} (h : Two a b) (mask : Int) : belowB (mergeA a (b.slots.filter (inM mask))) (mergeA a b.slots) := by
  refine ⟨h.okC _, h.okC _, fun e he => ?_⟩
  have hfe : e.fw := mergeA_fw _ _ h.fa (fun x hx => h.fb x (List.mem_filter.1 hx).1) e he
  have hl := lk_mem (h.okC (b.slots.filter (inM mask))).dist he (named.refl e)
  rw [h.lkC mask] at hl
  by_cases hm : inM mask e = true
  · rw [if_pos hm] at hl
    exact bl1_of (h.okC _).dist hl (joinE_idem hfe)
  · rw [if_neg hm] at hl
    have hj := h.lkJ e
    rw [hl] at hj
    cases hb : lk b.slots e with
    | none =>
      rw [hb] at hj
      exact bl1_of (h.okC _).dist hj (joinE_idem hfe)
    | some y =>
      rw [hb] at hj
      obtain ⟨h3, h4⟩ := lk_some hb
      exact bl1_of (h.okC _).dist hj (joinE_abs (h.oa.ent (lk_some hl).1) (h.ob.ent h3) h4.symm)
/-- Whatever both hold, in a bucket that was asked for, both hold. -/
theorem Two.both {a b : Ar} (h : Two a b) (mask : Int) {s : Ent} (hs : s ∈ (mergeA a b.slots).slots) (hm : inM mask s = true) : lk (mergeA a (b.slots.filter (inM mask))).slots s = some s ∧ lk (mergeA b (a.slots.filter (inM mask))).slots s = some s := by
  have hl := lk_mem (h.okC b.slots).dist hs (named.refl s)
  rw [h.lkC mask, h.symm.lkC mask, if_pos hm, if_pos hm, ← h.comm]
  exact ⟨hl, hl⟩
theorem Two.sums {a b : Ar} (h : Two a b) (mask j : Int) (hm : askd mask j) : smF (mergeA a (b.slots.filter (inM mask))) j = smF (mergeA b (a.slots.filter (inM mask))) j := by
  unfold smF slotsOf
  rw [if_pos (h.okC _), if_pos (h.symm.okC _)]
  refine smS_same (h.okC _).dist (h.symm.okC _).dist j fun e he => ?_
  have hi : inM mask e = true := by unfold inM; rw [he]; exact decide_eq_true hm
  rw [mem_lk (h.okC _).dist, mem_lk (h.symm.okC _).dist, h.lkC, h.symm.lkC, if_pos hi, if_pos hi, h.comm]
def wgt (p q r s : Bool) : Int := (if p then 0 else 1) + (if q then 0 else 2) + (if r then 0 else 4) + (if s then 0 else 8)
theorem dif_wgt (a b c d a' b' c' d' : Int) : dif a b c d a' b' c' d' = wgt (decide (a = a')) (decide (b = b')) (decide (c = c')) (decide (d = d')) := by
  unfold dif wgt
  simp only [decide_eq_true_eq]
theorem wgt_askd : ∀ p q r s : Bool, (askd (wgt p q r s) 0 ↔ p = false) ∧ (askd (wgt p q r s) 1 ↔ q = false) ∧ (askd (wgt p q r s) 2 ↔ r = false) ∧ (askd (wgt p q r s) 3 ↔ s = false) := by
  decide +kernel
theorem wgt_and : ∀ p q r s p' q' r' s' : Bool, (p = false → p' = true) → (q = false → q' = true) → (r = false → r' = true) → (s = false → s' = true) → bitI .and .i64 (wgt p' q' r' s') (wgt p q r s) = 0 := by
  decide +kernel
theorem wgt_0 : ∀ p q r s : Bool, wgt p q r s = 0 → p = true ∧ q = true ∧ r = true ∧ s = true := by
  decide +kernel
theorem Two.done {a b : Ar} (h : Two a b) {m0 m1 m2 m3 n0 n1 n2 n3 mask : Int} (hm : mask = dif m0 m1 m2 m3 n0 n1 n2 n3) :
    bitI .and .i64 (dif (smF (mergeA a (b.slots.filter (inM mask))) 0) (smF (mergeA a (b.slots.filter (inM mask))) 1) (smF (mergeA a (b.slots.filter (inM mask))) 2) (smF (mergeA a (b.slots.filter (inM mask))) 3)
      (smF (mergeA b (a.slots.filter (inM mask))) 0) (smF (mergeA b (a.slots.filter (inM mask))) 1) (smF (mergeA b (a.slots.filter (inM mask))) 2) (smF (mergeA b (a.slots.filter (inM mask))) 3)) mask = 0 := by
  have hs := h.sums mask
  rw [dif_wgt] at hm ⊢
  obtain ⟨w0, w1, w2, w3⟩ := wgt_askd (decide (m0 = n0)) (decide (m1 = n1)) (decide (m2 = n2)) (decide (m3 = n3))
  rw [← hm] at w0 w1 w2 w3
  conv => lhs; arg 4; rw [hm]
  refine wgt_and _ _ _ _ _ _ _ _ (fun hq => ?_) (fun hq => ?_) (fun hq => ?_) (fun hq => ?_)
  · exact decide_eq_true (hs 0 (w0.2 hq))
  · exact decide_eq_true (hs 1 (w1.2 hq))
  · exact decide_eq_true (hs 2 (w2.2 hq))
  · exact decide_eq_true (hs 3 (w3.2 hq))
end Go.Proofs.YtmjpidjdbofdjaaGreat
namespace Go.Proofs.YtmjpidjdbofdjaaGreat
open Go Go.Sy
def oneA (e : Ent) : Ar := ⟨1, [e], [0]⟩
theorem one_ok {e : Ent} (h : entOk e) : arOk (oneA e) := by
  refine ⟨by simp [oneA], by simp [oneA], by simp [oneA], fun x hx => ?_, srtd_of_dist (by simp [oneA, dist]), ?_⟩
  · rw [List.mem_singleton.1 hx]; exact h
  · have hp := idx_perm [e]
    have h1 : idx [e] = [0] := List.perm_singleton.1 hp
    show (idx [e]).map _ = _
    rw [h1]; rfl
theorem one_bd {e : Ent} (h : entOk e) : (oneA e).bd := ⟨fun x hx => by rw [List.mem_singleton.1 hx]; exact h.bd, by simp [oneA], by simp [oneA]⟩
theorem one_below {e : Ent} (h : entOk e) (hf : e.fw) : belowB (oneA e) (oneA e) := by
  refine ⟨one_ok h, one_ok h, fun x hx => ?_⟩
  rw [List.mem_singleton.1 hx]
  exact bl1_of (one_ok h).dist (lk_mem (one_ok h).dist (List.mem_singleton.2 rfl) (named.refl e)) (joinE_idem hf)
theorem one_alike {e : Ent} (h : entOk e) (hf : e.fw) : alikeB (oneA e) (oneA e) := ⟨one_below h hf, one_below h hf⟩
theorem find_lk {l : List Ent} (hd : dist l) {n x : Ent} (h : lk l n = some x) : ∃ j : Nat, findZ l n.val.kind n.key = j ∧ l[j]? = some x ∧ j < l.length := by
  obtain ⟨hx, hn⟩ := lk_some h
  unfold findZ
  cases hfi : l.findIdx? (isN n.val.kind n.key) with
  | none =>
    rw [List.findIdx?_eq_none_iff] at hfi
    have := hfi x hx
    unfold isN at this
    exact absurd hn (by simpa [named] using this)
  | some j =>
    obtain ⟨hjl, hjp, _⟩ := List.findIdx?_eq_some_iff_getElem.1 hfi
    unfold isN at hjp
    simp only [decide_eq_true_eq] at hjp
    have : l[j] = x := dist_eq hd (List.getElem_mem hjl) hx ((show named l[j] n from hjp).trans hn.symm)
    exact ⟨j, rfl, by rw [List.getElem?_eq_getElem hjl, this], hjl⟩
theorem inF_mem {a : Ar} {mask most : Int} {e : Ent} (h : e ∈ inF a mask most) : e ∈ a.slots := by
  have := (inS_sub mask most (slotsOf a)).subset h
  unfold slotsOf at this
  split at this
  · exact this
  · cases this
theorem giveF_bd (a : Ar) (f : Fra) (chunk : Int) : (giveF a f chunk).bd := by
  unfold giveF
  split
  · exact ⟨fun e he => (inF_ok a _ _ he).bd, by have := inF_le a f.a chunk; show (inF a f.a chunk).length < _; omega⟩
  · exact ⟨fun e he => by simp [FZ] at he, by simp [FZ]⟩
end Go.Proofs.YtmjpidjdbofdjaaGreat

