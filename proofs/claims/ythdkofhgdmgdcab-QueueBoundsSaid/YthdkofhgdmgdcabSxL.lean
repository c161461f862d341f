import Derived.Test.YthdkofhgdmgdcabSxK
/- Sx, part L: rows: slices that are the run's own; appending, copying, clearing; handing cells over to what nobody writes. -/
set_option linter.unusedVariables false
set_option linter.unusedSimpArgs false
namespace Go.Sx
open Go

section
variable {P : Program} {β : List Nat} {H : Hp} {w w' : World}
theorem fm_set {l : List Row} {i : Nat} {r r' : Row} (h : l[i]? = some r) (b : Nat) (hb : b ∈ (l.set i r').filterMap (·.v.ownBlock)) : b ∈ l.filterMap (·.v.ownBlock) ∨ r'.v.ownBlock = some b := by
  obtain ⟨x, hx, hxb⟩ := List.mem_filterMap.1 hb
  rcases List.mem_or_eq_of_mem_set hx with h1 | rfl
  · exact .inl (List.mem_filterMap.2 ⟨x, h1, hxb⟩)
  · exact .inr hxb
theorem fm_nodup : ∀ {l : List Row} {i : Nat} {r r' : Row}, l[i]? = some r → (l.filterMap (·.v.ownBlock)).Nodup → (∀ b, r'.v.ownBlock = some b → r.v.ownBlock = some b ∨ b ∉ l.filterMap (·.v.ownBlock)) →
    ((l.set i r').filterMap (·.v.ownBlock)).Nodup
  | [], i, r, r', h, _, _ => by simp at h
  | x :: l, 0, r, r', h, hn, hb => by
    simp at h; subst h
    simp only [List.set_cons_zero, List.filterMap_cons] at hn hb ⊢
    have hn2 : (l.filterMap (·.v.ownBlock)).Nodup := by
      split at hn
      · exact hn
      · exact (List.nodup_cons.1 hn).2
    split
    · exact hn2
    · rename_i b hb'
      refine List.nodup_cons.2 ⟨?_, hn2⟩
      intro hm
      rcases hb b hb' with h1 | h1
      · rw [h1] at hn; exact (List.nodup_cons.1 hn).1 hm
      · split at h1
        · exact h1 hm
        · exact h1 (List.mem_cons_of_mem _ hm)
  | x :: l, i + 1, r, r', h, hn, hb => by
    simp at h
    simp only [List.set_cons_succ, List.filterMap_cons] at hn hb ⊢
    split
    · rename_i hx
      rw [hx] at hn hb
      exact fm_nodup h hn hb
    · rename_i g hx
      rw [hx] at hn hb
      obtain ⟨h1, h2⟩ := List.nodup_cons.1 hn
      refine List.nodup_cons.2 ⟨?_, fm_nodup h h2 fun b hb' => ?_⟩
      · intro hm
        rcases fm_set h g hm with h3 | h3
        · exact h1 h3
        · rcases hb g h3 with h4 | h4
          · exact h1 (List.mem_filterMap.2 ⟨r, List.mem_of_getElem? h, h4⟩)
          · exact h4 (List.mem_cons_self ..)
      · rcases hb b hb' with h4 | h4
        · exact .inl h4
        · exact .inr fun hm => h4 (List.mem_cons_of_mem _ hm)
theorem fm_inj : ∀ {l : List Row} {i k : Nat} {a b : Row} {g : Nat}, (l.filterMap (·.v.ownBlock)).Nodup → l[i]? = some a → l[k]? = some b → a.v.ownBlock = some g → b.v.ownBlock = some g → i = k
  | [], i, k, a, b, g, _, h, _, _, _ => by simp at h
  | x :: l, 0, 0, a, b, g, _, _, _, _, _ => rfl
  | x :: l, 0, k + 1, a, b, g, hn, h1, h2, h3, h4 => by
    simp at h1 h2; subst h1
    rw [List.filterMap_cons, h3] at hn
    exact absurd (List.mem_filterMap.2 ⟨b, List.mem_of_getElem? h2, h4⟩) (List.nodup_cons.1 hn).1
  | x :: l, i + 1, 0, a, b, g, hn, h1, h2, h3, h4 => by
    simp at h1 h2; subst h2
    rw [List.filterMap_cons, h4] at hn
    exact absurd (List.mem_filterMap.2 ⟨a, List.mem_of_getElem? h1, h3⟩) (List.nodup_cons.1 hn).1
  | x :: l, i + 1, k + 1, a, b, g, hn, h1, h2, h3, h4 => by
    simp at h1 h2
    have h6 : (l.filterMap (·.v.ownBlock)).Nodup := by
      rw [List.filterMap_cons] at hn
      split at hn
      · exact hn
      · exact (List.nodup_cons.1 hn).2
    exact congrArg (· + 1) (fm_inj h6 h1 h2 h3 h4)

/-- One row is changed; it may come to lie in a new block. -/
theorem Rep.rowSet (R : Rep β H w) {ri : Nat} {r r' : Row} (hr : H.rows[ri]? = some r) (ho : w'.ownsRow 0 r'.e r'.size r'.v r'.n r'.xs) (hg : w.grownBy w' r.v.ownBlock)
    (hb : ∀ b, r'.v.ownBlock = some b → r.v.ownBlock = some b ∨ w.heap.size ≤ b) :
    Rep β { H with rows := H.rows.set ri r' } w' ∧ Ext β H w β { H with rows := H.rows.set ri r' } w' := by
  have hrm : r ∈ H.rows := List.mem_of_getElem? hr
  have hO : ∀ b ∈ owned β H, b < w.heap.size := R.blt
  have hnd := List.nodup_append.1 R.nd
  have hrow : ∀ b, r.v.ownBlock = some b → b ∈ owned β H := fun b hb => List.mem_append_right _ (List.mem_filterMap.2 ⟨r, hrm, hb⟩)
  have hown : ∀ b ∈ owned β { H with rows := H.rows.set ri r' }, b ∈ owned β H ∨ w.heap.size ≤ b := by
    intro b hm
    rcases List.mem_append.1 hm with h | h
    · exact .inl (List.mem_append_left _ h)
    · rcases fm_set hr b h with h | h
      · exact .inl (List.mem_append_right _ h)
      · rcases hb b h with h | h
        · exact .inl (hrow b h)
        · exact .inr h
  have hkeep : ∀ k, k < w.heap.size → r.v.ownBlock ≠ some k → w'.heap[k]? = w.heap[k]? := fun k hk hne => hg.block k hk (fun e => hne e.symm)
  refine ⟨⟨R.len, R.nb, ?_, ?_, ?_, ?_⟩, ⟨List.prefix_refl _, ⟨hg.os, hg.tape, hg.output, hg.size, fun k hk hn => hkeep k hk (fun e => hn (hrow k e))⟩, hown, fun _ _ h => h, fun _ _ h => .inl h⟩⟩
  · intro i cs b hi hbi
    obtain ⟨ys, t, h2, h3⟩ := R.box i cs b hi hbi
    refine ⟨ys, t, h2, ?_⟩
    rw [hkeep b (Array.getElem?_eq_some_iff.1 h3).1 ?_]
    · exact h3
    · intro e
      exact hnd.2.2 b (List.mem_of_getElem? hbi) b (List.mem_filterMap.2 ⟨r, hrm, e⟩) rfl
  · intro x hx
    obtain ⟨k, hk⟩ := List.mem_iff_getElem?.1 hx
    by_cases hkr : ri = k
    · subst hkr
      have hlt : ri < H.rows.length := (List.getElem?_eq_some_iff.1 hr).1
      rw [List.getElem?_set_self hlt] at hk
      injection hk with hk
      subst hk
      exact ho
    · rw [List.getElem?_set_ne hkr] at hk
      refine (R.row x (List.mem_of_getElem? hk)).kept hg ?_
      cases hv : x.v.ownBlock with
      | none => exact .inl rfl
      | some g =>
        refine .inr fun e => ?_
        exact hkr (fm_inj hnd.2.1 hr hk e.symm hv)
  · refine List.nodup_append.2 ⟨hnd.1, fm_nodup hr hnd.2.1 fun b hb' => ?_, ?_⟩
    · rcases hb b hb' with h | h
      · exact .inl h
      · exact .inr fun hm => by have := hO b (List.mem_append_right _ hm); omega
    · intro a ha b hm e
      subst e
      rcases fm_set hr a hm with h | h
      · exact hnd.2.2 a ha a h rfl
      · rcases hb a h with h | h
        · exact hnd.2.2 a ha a (List.mem_filterMap.2 ⟨r, hrm, h⟩) rfl
        · have := hO a (List.mem_append_left _ ha); omega
  · intro a v hav
    obtain ⟨h5, h6⟩ := R.g a v hav
    have hlt := World.block_lt_of_cell? w a h5
    refine ⟨?_, ?_⟩
    · rw [World.cell?_of_block (w := w) (hkeep a.block hlt (fun e => h6 (hrow _ e)))]; exact h5
    · intro hm
      rcases hown _ hm with h | h
      · exact h6 h
      · omega
/-- A row is new. -/
theorem Rep.rowAdd (R : Rep β H w) {r' : Row} (ho : w'.ownsRow 0 r'.e r'.size r'.v r'.n r'.xs) (hg : w.grownBy w' none) (hb : ∀ b, r'.v.ownBlock = some b → w.heap.size ≤ b) :
    Rep β { H with rows := H.rows ++ [r'] } w' ∧ Ext β H w β { H with rows := H.rows ++ [r'] } w' := by
  have hO : ∀ b ∈ owned β H, b < w.heap.size := R.blt
  have hkeep : ∀ k, k < w.heap.size → w'.heap[k]? = w.heap[k]? := fun k hk => hg.block k hk (by simp)
  have hown : ∀ b ∈ owned β { H with rows := H.rows ++ [r'] }, b ∈ owned β H ∨ r'.v.ownBlock = some b := by
    intro b hm
    simp only [owned, List.filterMap_append, List.mem_append] at hm ⊢
    rcases hm with h | h | h
    · exact .inl (.inl h)
    · exact .inl (.inr h)
    · simp only [List.filterMap_cons, List.filterMap_nil] at h
      split at h
      · simp at h
      · rename_i x hx; simp at h; subst h; exact .inr hx
  refine ⟨⟨R.len, R.nb, ?_, ?_, ?_, ?_⟩, ⟨List.prefix_refl _, ⟨hg.os, hg.tape, hg.output, hg.size, fun k hk hn => hkeep k hk⟩, fun b hm => ?_, fun _ _ h => h, fun _ _ h => .inl h⟩⟩
  · intro i cs b hi hbi
    obtain ⟨ys, t, h2, h3⟩ := R.box i cs b hi hbi
    exact ⟨ys, t, h2, by rw [hkeep b (Array.getElem?_eq_some_iff.1 h3).1]; exact h3⟩
  · intro x hx
    rcases List.mem_append.1 hx with hx | hx
    · refine (R.row x hx).kept hg ?_
      cases x.v.ownBlock with
      | none => exact .inl rfl
      | some g => exact .inr (by simp)
    · simp at hx; subst hx; exact ho
  · have e : owned β { H with rows := H.rows ++ [r'] } = owned β H ++ [r'].filterMap (·.v.ownBlock) := by simp [owned]
    rw [e]
    refine List.nodup_append.2 ⟨R.nd, ?_, ?_⟩
    · simp only [List.filterMap_cons, List.filterMap_nil]; split <;> simp
    · intro a ha b hm e
      subst e
      simp only [List.filterMap_cons, List.filterMap_nil] at hm
      split at hm
      · simp at hm
      · rename_i x hx
        simp at hm; subst hm
        have := hb _ hx; have := hO _ ha; omega
  · intro a v hav
    obtain ⟨h5, h6⟩ := R.g a v hav
    have hlt := World.block_lt_of_cell? w a h5
    refine ⟨by rw [World.cell?_of_block (w := w) (hkeep a.block hlt)]; exact h5, ?_⟩
    intro hm
    rcases hown _ hm with h | h
    · exact h6 h
    · have := hb _ h; omega
  · rcases hown b hm with h | h
    · exact .inl h
    · exact .inr (hb b h)

/-- What a state may be taken for. -/
structure Weak (H : Hp) (K : Hp → Prop) : Prop where
  to : ∀ β w, Rep β H w → ∃ H', Rep β H' w ∧ Ext β H w β H' w ∧ K H'
theorem Weak.refl {K : Hp → Prop} (h : K H) : Weak H K := ⟨fun β w R => ⟨H, R, Ext.refl _ _ _, h⟩⟩
theorem Weak.trans {K : Hp → Prop} (h : Weak H fun H' => Weak H' K) : Weak H K := ⟨fun β w R => by
  obtain ⟨H1, R1, X1, h1⟩ := h.to β w R
  obtain ⟨H2, R2, X2, h2⟩ := h1.to β w R1
  exact ⟨H2, R2, X1.trans X2, h2⟩⟩
theorem Tr.weak {f : FuncId} {args : List SV} {Q : SV → Hp → Prop} (h : Tr P f args H fun r H' => Weak H' (Q r)) : Tr P f args H Q :=
  ⟨fun β w xs R hd => (h.run β w xs R hd).mono fun x w' ⟨r, H', β', h2, h3, h4, h5⟩ => by
    obtain ⟨H2, R2, X2, h6⟩ := h5.to β' w' h3
    exact ⟨r, H2, β', h2, R2, h4.trans X2, h6⟩⟩
theorem Tr.weakH {f : FuncId} {args : List SV} {Q : SV → Hp → Prop} (h : Weak H fun H' => Tr P f args H' Q) : Tr P f args H Q :=
  ⟨fun β w xs R hd => by
    obtain ⟨H2, R2, X2, h6⟩ := h.to β w R
    exact (h6.run β w xs R2 hd).mono fun x w' ⟨r, H', β', h2, h3, h4, h5⟩ => ⟨r, H', β', h2, h3, X2.trans h4, h5⟩⟩
theorem Goes.weak {m : Sem Next} {k : SV → Hp → Prop} (h : Goes P β H w m fun s H' => Weak H' (k s)) : Goes P β H w m k := by
  obtain ⟨y, w', β', s, H', h1, h2, h3, h4, h5⟩ := h
  obtain ⟨H2, R2, X2, h6⟩ := h5.to β' w' h3
  exact ⟨y, w', β', s, H2, h1, h2, R2, h4.trans X2, h6⟩
/-- A row's cells are handed over to what nobody will write. -/
theorem Weak.pub {K : Hp → Prop} (ri : Nat) {r : Row} (hr : H.rows[ri]? = some r)
    (h : ∀ g', (∀ a v, H.g a = some v → g' a = some v) → (∀ g, r.v.ownBlock = some g → ∀ j u, r.xs[j]? = some u → g' ((⟨g, 0, none⟩ : Addr).add j) = some u) → K { H with rows := H.rows.eraseIdx ri, g := g' }) : Weak H K := by
  refine ⟨fun β w R => ?_⟩
  have hrm : r ∈ H.rows := List.mem_of_getElem? hr
  have hrow := R.row r hrm
  have hlt : ri < H.rows.length := (List.getElem?_eq_some_iff.1 hr).1
  have hperm : (H.rows.filterMap (·.v.ownBlock)).Perm (r.v.ownBlock.toList ++ (H.rows.eraseIdx ri).filterMap (·.v.ownBlock)) := by
    have h1 : H.rows.Perm (r :: H.rows.eraseIdx ri) := by
      have e : H.rows[ri] = r := (List.getElem?_eq_some_iff.1 hr).2
      have h2 : H.rows = H.rows.take ri ++ r :: H.rows.drop (ri + 1) := by rw [← e]; simp
      rw [List.eraseIdx_eq_take_drop_succ]
      conv => lhs; rw [h2]
      exact List.perm_middle
    have h2 := h1.filterMap (·.v.ownBlock)
    refine h2.trans ?_
    rw [List.filterMap_cons]
    cases r.v.ownBlock <;> simp
  have hnd := List.nodup_append.1 R.nd
  have hnd2 := (hperm.nodup_iff).1 hnd.2.1
  generalize hG : (fun (a : Addr) => match H.g a with
    | some v => some v
    | none => if r.v.ownBlock = some a.block ∧ a = (⟨a.block, 0, none⟩ : Addr).add a.off then r.xs[a.off]? else none) = G
  have hG1 : ∀ a v, H.g a = some v → G a = some v := by intro a v hv; subst hG; simp only [hv]
  have hG2 : ∀ g, r.v.ownBlock = some g → ∀ j u, r.xs[j]? = some u → G ((⟨g, 0, none⟩ : Addr).add j) = some u := by
    intro g hg j u hu
    subst hG
    rw [addr0]
    have hn : H.g ⟨g, j, none⟩ = none := by
      cases hv : H.g ⟨g, j, none⟩ with
      | none => rfl
      | some v => exact absurd (List.mem_append_right _ (List.mem_filterMap.2 ⟨r, hrm, hg⟩)) (R.g _ _ hv).2
    simp only [hn]
    rw [if_pos ⟨hg, by rw [addr0]⟩]
    exact hu
  have hsub : ∀ b, b ∈ owned β { H with rows := H.rows.eraseIdx ri, g := G } → b ∈ owned β H := by
    intro b hb
    rcases List.mem_append.1 hb with hb | hb
    · exact List.mem_append_left _ hb
    · exact List.mem_append_right _ ((hperm.mem_iff).2 (List.mem_append_right _ hb))
  refine ⟨_, ?_, ?_, h G hG1 hG2⟩
  · refine ⟨R.len, R.nb, R.box, fun x hx => R.row x (List.mem_of_mem_eraseIdx hx), ?_, ?_⟩
    · refine List.nodup_append.2 ⟨hnd.1, (List.nodup_append.1 hnd2).2.1, fun a ha b hb e => ?_⟩
      exact hnd.2.2 a ha b ((hperm.mem_iff).2 (List.mem_append_right _ hb)) e
    · intro a v hv
      subst hG
      simp only at hv
      split at hv
      · rename_i v' hv'
        injection hv with hv
        subst hv
        obtain ⟨h1, h2⟩ := R.g a v' hv'
        exact ⟨h1, fun hm => h2 (hsub _ hm)⟩
      · split at hv
        · rename_i hn hc
          obtain ⟨hc1, hc2⟩ := hc
          refine ⟨by rw [hc2]; exact hrow.cells hc1 _ _ hv, fun hm => ?_⟩
          rcases List.mem_append.1 hm with hm | hm
          · exact hnd.2.2 _ hm _ (List.mem_filterMap.2 ⟨r, hrm, hc1⟩) rfl
          · exact (List.nodup_append.1 hnd2).2.2 a.block (by rw [hc1]; simp) a.block hm rfl
        · cases hv
  · refine ⟨List.prefix_refl _, Fr.refl _ _, fun b hb => .inl (hsub b hb), hG1, fun a v hv => ?_⟩
    subst hG
    simp only at hv
    split at hv
    · rename_i v' hv'; injection hv with hv; subst hv; exact .inl hv'
    · split at hv
      · rename_i hn hc
        exact .inr (.inl (List.mem_append_right _ (List.mem_filterMap.2 ⟨r, hrm, hc.1⟩)))
      · cases hv
end
end Go.Sx
