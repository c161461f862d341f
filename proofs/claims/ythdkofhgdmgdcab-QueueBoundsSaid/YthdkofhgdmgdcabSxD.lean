import Derived.Test.YthdkofhgdmgdcabSxC
/- Sx, part D: operations on memory; all operations; calls. -/
set_option linter.unusedVariables false
set_option linter.unusedSimpArgs false
namespace Go.Sx
open Go

/-- What a cell is known to hold: nobody writes it, or it is one of a row. -/
def Hp.at (H : Hp) (a : Addr) (u : Value) : Prop :=
  H.g a = some u ∨ ∃ r ∈ H.rows, ∃ g, r.v.ownBlock = some g ∧ ∃ j, a = (⟨g, 0, none⟩ : Addr).add j ∧ r.xs[j]? = some u
section
variable {P : Program} {β : List Nat} {H : Hp} {w : World}
theorem Rep.at (R : Rep β H w) {a : Addr} {u : Value} (h : H.at a u) : w.cell? a = some u := by
  rcases h with h | ⟨r, hr, g, hg, j, rfl, hj⟩
  · exact (R.g a u h).1
  · exact (R.row r hr).cells hg j u hj
end

/-! ### Loads and stores -/
def ldS (H : Hp) (i : TI) (s : SV) (k : SV → Hp → Prop) : Prop :=
  match s with
  | .loc b o => nd (nth H.boxes b) fun cs => match i.agg with
    | true => nd (sub cs o i.size) fun l => lf l fun l => k (.agg l) H
    | false => nd (nth cs o) fun s => k s H
  | .v (.pointer (some ad)) => match i.agg with
    | true => ∃ l : List Value, l.length = i.size ∧ (∀ j u, l[j]? = some u → H.at (ad.add j) u) ∧ lf (l.map .v) fun l => k (.agg l) H
    | false => ∃ u, H.at ad u ∧ k (.v u) H
  | _ => False
def plainL : List SV → Option (List Value)
  | [] => some []
  | .v x :: r => match plainL r with | some l => some (x :: l) | none => none
  | _ :: _ => none
def setBox (H : Hp) (b : Nat) (cs : List SV) (k : Hp → Prop) : Prop :=
  match H with
  | ⟨nb, B, rs, g⟩ => lf (B.set b cs) fun bs => k ⟨nb, bs, rs, g⟩
theorem setBox_eq {H : Hp} {b : Nat} {cs : List SV} {k : Hp → Prop} (h : setBox H b cs k) : k { H with boxes := H.boxes.set b cs } := by
  cases H
  simp only [setBox, lf_eq] at h
  exact h
def setRows (H : Hp) (ri : Nat) (r : Row) (k : Hp → Prop) : Prop :=
  match H with
  | ⟨nb, B, rs, g⟩ => lf (rs.set ri r) fun rs => k ⟨nb, B, rs, g⟩
theorem setRows_eq {H : Hp} {ri : Nat} {r : Row} {k : Hp → Prop} (h : setRows H ri r k) : k { H with rows := H.rows.set ri r } := by
  cases H
  simp only [setRows, lf_eq] at h
  exact h
def stS (H : Hp) (i : TI) (s : SV) (y : List SV) (k : SV → Hp → Prop) : Prop :=
  match Nat.beq y.length i.size, ones y with
  | true, true => match s with
    | .loc b o => nd (nth H.boxes b) fun cs => nd (splice cs o y) fun cs => lf cs fun cs => setBox H b cs fun H' => k (.v undef) H'
    | .v (.pointer (some ad)) => nd (plainL y) fun vs => ∃ ri r g j xs, H.rows[ri]? = some r ∧ r.v.ownBlock = some g ∧ ad = (⟨g, 0, none⟩ : Addr).add j ∧ splice r.xs j vs = some xs ∧
        setRows H ri { r with xs := xs } fun H' => k (.v undef) H'
    | _ => False
  | _, _ => False

section
variable {P : Program} {β : List Nat} {H : Hp} {w : World}
theorem addr0 (g j : Nat) : (⟨g, 0, none⟩ : Addr).add j = ⟨g, j, none⟩ := by unfold Addr.add; split <;> simp_all
theorem addrO (g o j : Nat) : (⟨g, o, none⟩ : Addr).add j = ⟨g, o + j, none⟩ := by unfold Addr.add; split <;> simp_all

theorem run_loadVar_cells {t : TypeId} {i : TI} (ti : TInfo P t i) (w : World) (a : Addr) (l : List Value) (hl : l.length = i.size) (ha : i.agg = true)
    (h : ∀ j u, l[j]? = some u → w.cell? (a.add j) = some u) : (loadVar t a).run P w = .ok (.agg l.toArray) w := by
  have h1 := run_loadCells_list (P := P) w a l h
  rw [hl] at h1
  simp [loadVar, ti.run_agg, ti.run_size, ha, h1]
theorem run_loadVar_one {t : TypeId} {i : TI} (ti : TInfo P t i) (w : World) (a : Addr) (u : Value) (ha : i.agg = false)
    (h : w.cell? a = some u) : (loadVar t a).run P w = .ok u w := by
  simp [loadVar, ti.run_agg, ha, load, Sem.run, h]

theorem ldS_run (R : Rep β H w) {t : TypeId} {i : TI} (ti : TInfo P t i) {s : SV} {x : Value} (hx : Den β s x) {k : SV → Hp → Prop} (h : ldS H i s k) :
    ∃ y s', (Instr.loadAt t x).run P w = .ok y w ∧ Den β s' y ∧ k s' H := by
  unfold ldS at h
  split at h
  · rename_i b o
    obtain ⟨bb, hb, rfl⟩ := hx
    obtain ⟨cs, hcs, h⟩ := nd_elim h
    rw [nth_eq] at hcs
    obtain ⟨xs, ty, hd, hh⟩ := R.box b cs bb hcs hb
    have hcell : ∀ j, w.cell? ⟨bb, j, none⟩ = xs[j]? := fun j => by rw [cell_of_row w bb j xs.toArray ty _ hh]; simp
    split at h
    · rename_i ha
      obtain ⟨l, hl, h⟩ := nd_elim h
      rw [lf_eq] at h
      have hs := sub_eq hl
      have hdl := DenL.sub hd hl
      refine ⟨_, .agg l, ?_, ⟨_, hdl, rfl⟩, h⟩
      simp only [Instr.loadAt, Instr.sureAddr, Sem.run_bind, Sem.run_pure, Result.andThen_ok]
      refine run_loadVar_cells ti w _ _ ?_ ha ?_
      · have := hd.length; simp; omega
      · intro j u hj
        rw [addrO, hcell]
        simp only [List.getElem?_take, List.getElem?_drop] at hj
        split at hj
        · exact hj
        · cases hj
    · rename_i ha
      obtain ⟨s1, hs1, h⟩ := nd_elim h
      rw [nth_eq] at hs1
      obtain ⟨y, hy, hd1⟩ := hd.get hs1
      refine ⟨y, s1, ?_, hd1, h⟩
      simp only [Instr.loadAt, Instr.sureAddr, Sem.run_bind, Sem.run_pure, Result.andThen_ok]
      exact run_loadVar_one ti w _ _ ha (by rw [hcell]; exact hy)
  · rename_i ad
    simp only [Den] at hx
    subst hx
    split at h
    · rename_i ha
      obtain ⟨l, hl, hc, h⟩ := h
      rw [lf_eq] at h
      refine ⟨_, .agg (l.map .v), ?_, ⟨l, DenL.plain _ _, rfl⟩, h⟩
      simp only [Instr.loadAt, Instr.sureAddr, Sem.run_bind, Sem.run_pure, Result.andThen_ok]
      exact run_loadVar_cells ti w _ _ hl ha fun j u hj => R.at (hc j u hj)
    · rename_i ha
      obtain ⟨u, hu, h⟩ := h
      refine ⟨u, .v u, ?_, rfl, h⟩
      simp only [Instr.loadAt, Instr.sureAddr, Sem.run_bind, Sem.run_pure, Result.andThen_ok]
      exact run_loadVar_one ti w _ _ ha (R.at hu)
  · exact h.elim

theorem plainL_den : ∀ {l : List SV} {vs ys : List Value}, plainL l = some vs → DenL β l ys → ys = vs
  | [], _, _, h, hd => by simp [plainL] at h; simp [DenL] at hd; subst h; exact hd
  | s :: r, _, _, h, hd => by
    obtain ⟨y, zs, h1, h2, rfl⟩ := hd
    cases s <;> simp only [plainL] at h <;> try (cases h; done)
    split at h
    · rename_i l hl
      injection h with h
      subst h
      simp only [Den] at h1
      subst h1
      rw [plainL_den hl h2]
    · cases h

/-- A row is written. -/
theorem Rep.setRowAt (R : Rep β H w) {ri : Nat} {r : Row} {g j : Nat} {vs xs : List Value} (hr : H.rows[ri]? = some r) (hg : r.v.ownBlock = some g) (hs : splice r.xs j vs = some xs)
    (h1 : ∀ v ∈ vs, v.oneCell' = true) :
    ∃ w', (storeCells ((⟨g, 0, none⟩ : Addr).add j) vs).run P w = .ok () w' ∧ Rep β { H with rows := H.rows.set ri { r with xs := xs } } w' ∧
      Ext β H w β { H with rows := H.rows.set ri { r with xs := xs } } w' := by
  obtain ⟨hle, hxs⟩ := splice_eq hs
  have hrm : r ∈ H.rows := List.mem_of_getElem? hr
  have hrow := R.row r hrm
  obtain ⟨hlen, hown⟩ := hrow
  rcases hown with ⟨hv, _⟩ | ⟨g', cap, cur, hv, _, hh, hn, hcap, hcs, htk⟩
  · rw [hv] at hg; cases hg
  have hgg : g' = g := by rw [hv] at hg; exact Option.some.inj hg
  subst hgg
  have hcl : r.xs.length ≤ cur.size := by rw [hlen, hcs]; exact Nat.mul_le_mul_right _ hn
  rw [addr0]
  have hst := run_storeCells_at (P := P) g' j r.e vs 0 cur w hh (by omega) h1
  refine ⟨_, hst, ?_⟩
  have hbm : g' ∈ owned β H := List.mem_append_right _ (List.mem_filterMap.2 ⟨r, hrm, hg⟩)
  have hfm : (H.rows.set ri { r with xs := xs }).filterMap (·.v.ownBlock) = H.rows.filterMap (·.v.ownBlock) := by
    have : ∀ (l : List Row) (i : Nat), l[i]? = some r → (l.set i { r with xs := xs }).filterMap (·.v.ownBlock) = l.filterMap (·.v.ownBlock) := by
      intro l
      induction l with
      | nil => intro i h; simp at h
      | cons a l ih =>
        intro i h
        cases i with
        | zero => simp at h; subst h; simp [List.filterMap_cons]
        | succ i => simp at h; simp [List.filterMap_cons, ih i h]
    exact this _ _ hr
  have hownEq : owned β { H with rows := H.rows.set ri { r with xs := xs } } = owned β H := by simp only [owned]; rw [hfm]
  have hnd := List.nodup_append.1 R.nd
  generalize hnew : ((cur.toList.take (j + 0) ++ vs ++ cur.toList.drop (j + 0 + vs.length)).toArray) = new
  have hnews : new.size = cur.size := by subst hnew; simp; omega
  refine ⟨⟨R.len, R.nb, ?_, ?_, ?_, ?_⟩, ⟨List.prefix_refl _, ⟨rfl, rfl, rfl, by simp, fun k _ hk => setRow_other _ _ _ _ (fun e => hk (e ▸ hbm))⟩, fun b hb => .inl (hownEq ▸ hb), fun _ _ h => h, fun _ _ h => .inl h⟩⟩
  · intro i cs b hi hb
    obtain ⟨ys, t, h2, h3⟩ := R.box i cs b hi hb
    refine ⟨ys, t, h2, ?_⟩
    rw [setRow_other]; exact h3
    intro e; subst e
    exact hnd.2.2 b (List.mem_of_getElem? hb) b (List.mem_filterMap.2 ⟨r, hrm, hg⟩) rfl
  · intro r' hr'
    obtain ⟨k, hk, rfl⟩ := List.mem_iff_getElem.1 hr'
    by_cases hkr : ri = k
    · subst hkr
      simp only [List.getElem_set_self]
      refine ⟨by subst hxs; simp; omega, .inr ⟨g', cap, new, hv, Nat.zero_le _, setRow_heap w g' cur new r.e _ hh, hn, hcap, by rw [hnews, hcs], ?_⟩⟩
      rw [hxs]
      subst hnew
      simp only [Nat.add_zero]
      rw [← hlen]
      have hx : r.xs = cur.toList.take r.xs.length := by rw [hlen]; exact htk.symm
      have hl2 : r.xs.length ≤ cur.toList.length := by simpa using hcl
      have e1 : r.xs.take j = cur.toList.take j := by rw [hx, List.take_take]; congr 1; omega
      have e2 : r.xs.drop (j + vs.length) = (cur.toList.drop (j + vs.length)).take (r.xs.length - (j + vs.length)) := by
        conv => lhs; rw [hx]
        rw [List.drop_take]
      rw [e1, e2, List.take_append, List.take_of_length_le (by simp; omega)]
      congr 1
      congr 1
      simp
      omega
    · simp only [List.getElem_set_ne hkr]
      have hk' : k < H.rows.length := by simpa using hk
      refine (R.row _ (List.getElem_mem hk')).kept (row := some g') ⟨rfl, rfl, rfl, by simp, fun b _ hb => setRow_other _ _ _ _ (fun e => hb (by rw [e]))⟩ ?_
      cases hv2 : (H.rows[k]'hk').v.ownBlock with
      | none => exact .inl rfl
      | some g2 =>
        refine .inr fun e => ?_
        injection e with e
        subst e
        -- two rows of one block
        have h4 : (H.rows.filterMap (·.v.ownBlock)).Nodup := hnd.2.1
        have : ∀ (l : List Row) (i k : Nat) (a b : Row), l[i]? = some a → l[k]? = some b → a.v.ownBlock = some g2 → b.v.ownBlock = some g2 → (l.filterMap (·.v.ownBlock)).Nodup → i = k := by
          intro l
          induction l with
          | nil => intro i k a b h; simp at h
          | cons x l ih =>
            intro i k a b h1 h2 h3 h4 h5
            cases i with
            | zero =>
              cases k with
              | zero => rfl
              | succ k =>
                simp at h1 h2
                subst h1
                rw [List.filterMap_cons, h3] at h5
                exact absurd (List.mem_filterMap.2 ⟨b, List.mem_of_getElem? h2, h4⟩) (List.nodup_cons.1 h5).1
            | succ i =>
              cases k with
              | zero =>
                simp at h1 h2
                subst h2
                rw [List.filterMap_cons, h4] at h5
                exact absurd (List.mem_filterMap.2 ⟨a, List.mem_of_getElem? h1, h3⟩) (List.nodup_cons.1 h5).1
              | succ k =>
                simp at h1 h2
                have h6 : (l.filterMap (·.v.ownBlock)).Nodup := by
                  rw [List.filterMap_cons] at h5
                  split at h5
                  · exact h5
                  · exact (List.nodup_cons.1 h5).2
                exact congrArg (· + 1) (ih i k a b h1 h2 h3 h4 h6)
        exact absurd (this H.rows ri k r _ hr (List.getElem?_eq_getElem hk') hg hv2 h4) hkr
  · rw [hownEq]; exact R.nd
  · intro a v hav
    obtain ⟨h5, h6⟩ := R.g a v hav
    exact ⟨by rw [cell_setRow_other _ _ _ _ (fun e => h6 (e ▸ hbm))]; exact h5, by rw [hownEq]; exact h6⟩

theorem stS_run (R : Rep β H w) {t : TypeId} {i : TI} (ti : TInfo P t i) {s sy : SV} {x y : Value} (hx : Den β s x) (hy : Den β sy y) {k : SV → Hp → Prop} (h : stS H i s (cells sy) k) :
    ∃ w' H', (Instr.storeAt t x y).run P w = .ok () w' ∧ Rep β H' w' ∧ Ext β H w β H' w' ∧ k (.v undef) H' := by
  have hyc := den_cells hy
  unfold stS at h
  split at h
  case h_2 => exact h.elim
  rename_i hb1 hb2
  have hsz : (cells sy).length = i.size := Nat.eq_of_beq_eq_true hb1
  have h1 := ones_cell hb2 hyc
  have hys : y.cells.size = i.size := by have := hyc.length; simpa [hsz] using this
  have hsv : ∀ a : Addr, (storeVar t a y).run P w = (storeCells a y.cells.toList).run P w := by
    intro a
    simp only [storeVar, Sem.run_bind, ti.run_size, Result.andThen_ok]
    rw [if_neg (by simpa using hys)]
  split at h
  · rename_i b o
    obtain ⟨bb, hb, rfl⟩ := hx
    obtain ⟨cs, hcs, h⟩ := nd_elim h
    obtain ⟨cs', hcs', h⟩ := nd_elim h
    rw [lf_eq] at h
    replace h := setBox_eq h
    rw [nth_eq] at hcs
    obtain ⟨xs, ty, hd, hh⟩ := R.box b cs bb hcs hb
    have hsp := splice_eq hcs'
    have hdl := DenL.splice hd hyc hcs'
    have hl1 := hd.length
    have hl2 := hyc.length
    obtain ⟨R', X'⟩ := R.set hcs hb hdl
    refine ⟨_, _, ?_, R', X', h⟩
    simp only [Instr.storeAt, Instr.sureAddr, Sem.run_bind, Sem.run_pure, Result.andThen_ok, hsv]
    have := run_storeCells_at (P := P) bb o ty y.cells.toList 0 xs.toArray w hh (by simp at hl2 ⊢; omega) h1
    simpa only [Nat.add_zero] using this
  · rename_i ad
    simp only [Den] at hx
    subst hx
    obtain ⟨vs, hvs, ri, r, g, j, xs, hr, hg, rfl, hs, h⟩ := nd_elim h
    replace h := setRows_eq h
    have hvy := plainL_den hvs hyc
    obtain ⟨w', h2, R', X'⟩ := R.setRowAt (P := P) hr hg hs (by rw [← hvy]; exact h1)
    refine ⟨w', _, ?_, R', X', h⟩
    simp only [Instr.storeAt, Instr.sureAddr, Sem.run_bind, Sem.run_pure, Result.andThen_ok, hsv, hvy]
    exact h2
  · exact h.elim
end
end Go.Sx
