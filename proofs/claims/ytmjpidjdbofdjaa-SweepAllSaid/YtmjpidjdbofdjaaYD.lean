import Derived.Test.YtmjpidjdbofdjaaYC
/- Sy, part D: operations on memory. -/
set_option linter.unusedVariables false
set_option linter.unusedSimpArgs false
namespace Go.Sy
open Go

theorem addr0 (g j : Nat) : (⟨g, 0, none⟩ : Addr).add j = ⟨g, j, none⟩ := by unfold Addr.add; split <;> simp_all
theorem addrO (g o j : Nat) : (⟨g, o, none⟩ : Addr).add j = ⟨g, o + j, none⟩ := by unfold Addr.add; split <;> simp_all
theorem add_zero (a : Addr) : a.add 0 = a := by unfold Addr.add; simp
theorem add_add (a : Addr) (i j : Nat) : (a.add i).add j = a.add (i + j) := by
  unfold Addr.add
  by_cases hi : i = 0
  · subst hi; simp
  · by_cases hj : j = 0
    · subst hj; simp [hi]
    · simp [hi, hj, Nat.add_assoc]
theorem add_block (a : Addr) (i : Nat) : (a.add i).block = a.block := by unfold Addr.add; split <;> rfl

/-! ### Cells of equal values, side by side -/
theorem cellsL_nil : cellsL [] = [] := rfl
theorem cellsL_cons (u : Value) (r : List Value) : cellsL (u :: r) = u.cells.toList ++ cellsL r := rfl
theorem cellsL_append (l r : List Value) : cellsL (l ++ r) = cellsL l ++ cellsL r := by simp [cellsL]
theorem cellsL_length {sz : Nat} : ∀ {ws : List Value}, (∀ u ∈ ws, u.cells.size = sz) → (cellsL ws).length = ws.length * sz
  | [], _ => by simp [cellsL]
  | u :: r, h => by
    have h1 := h u (by simp)
    have h2 := cellsL_length (ws := r) fun x hx => h x (List.mem_cons_of_mem _ hx)
    rw [cellsL_cons, List.length_append, h2, List.length_cons, Nat.succ_mul]
    simp [h1, Nat.add_comm]
theorem cellsL_take {sz : Nat} : ∀ {ws : List Value} (n : Nat), (∀ u ∈ ws, u.cells.size = sz) → cellsL (ws.take n) = (cellsL ws).take (n * sz)
  | [], n, _ => by simp [cellsL]
  | u :: r, 0, _ => by simp [cellsL]
  | u :: r, n + 1, h => by
    have h1 := h u (by simp)
    have h2 := cellsL_take (ws := r) n fun x hx => h x (List.mem_cons_of_mem _ hx)
    have h3 : u.cells.toList.length = sz := by simp [h1]
    have h4 : (n + 1) * sz = sz + n * sz := by rw [Nat.succ_mul, Nat.add_comm]
    rw [List.take_succ_cons, cellsL_cons, cellsL_cons, h2, List.take_append, List.take_of_length_le (show u.cells.toList.length ≤ (n + 1) * sz by omega)]
    congr 2
    omega
theorem cellsL_drop {sz : Nat} : ∀ {ws : List Value} (n : Nat), (∀ u ∈ ws, u.cells.size = sz) → cellsL (ws.drop n) = (cellsL ws).drop (n * sz)
  | [], n, _ => by simp [cellsL]
  | u :: r, 0, _ => by simp
  | u :: r, n + 1, h => by
    have h1 := h u (by simp)
    have h2 := cellsL_drop (ws := r) n fun x hx => h x (List.mem_cons_of_mem _ hx)
    have h3 : u.cells.toList.length = sz := by simp [h1]
    have h4 : (n + 1) * sz = sz + n * sz := by rw [Nat.succ_mul, Nat.add_comm]
    rw [List.drop_succ_cons, cellsL_cons, h2, List.drop_append, List.drop_eq_nil_of_le (show u.cells.toList.length ≤ (n + 1) * sz by omega), List.nil_append]
    congr 1
    omega
theorem cellsL_at {sz : Nat} {ws : List Value} {m : Nat} {u : Value} (h : ∀ u ∈ ws, u.cells.size = sz) (hm : ws[m]? = some u) : ((cellsL ws).drop (m * sz)).take sz = u.cells.toList := by
  obtain ⟨hlt, rfl⟩ := List.getElem?_eq_some_iff.1 hm
  have hs := h _ (List.getElem_mem hlt)
  rw [← cellsL_drop m h, List.drop_eq_getElem_cons hlt, cellsL_cons, List.take_append_of_le_length (by simp [hs]), List.take_of_length_le (by simp [hs])]
theorem cellsL_get {sz : Nat} {ws : List Value} {m j : Nat} {u x : Value} (h : ∀ u ∈ ws, u.cells.size = sz) (hm : ws[m]? = some u) (hj : u.cells.toList[j]? = some x) : (cellsL ws)[m * sz + j]? = some x := by
  rw [← cellsL_at h hm, List.getElem?_take, List.getElem?_drop] at hj
  split at hj
  · exact hj
  · cases hj
theorem cellsL_set {sz : Nat} : ∀ {ws : List Value} {m : Nat} {u : Value}, (∀ u ∈ ws, u.cells.size = sz) → m < ws.length → u.cells.size = sz →
    cellsL (ws.set m u) = (cellsL ws).take (m * sz) ++ u.cells.toList ++ (cellsL ws).drop (m * sz + sz)
  | [], m, u, _, hm, _ => by simp at hm
  | v :: r, 0, u, h, _, hu => by
    have h1 := h v (by simp)
    simp only [List.set_cons_zero, cellsL_cons, Nat.zero_mul, List.take_zero, List.nil_append, Nat.zero_add]
    rw [List.drop_append, List.drop_eq_nil_of_le (by simp [h1])]
    simp [h1]
  | v :: r, m + 1, u, h, hm, hu => by
    have h1 := h v (by simp)
    have h2 := cellsL_set (ws := r) (m := m) (u := u) (fun x hx => h x (List.mem_cons_of_mem _ hx)) (by simpa using hm) hu
    have h3 : v.cells.toList.length = sz := by simp [h1]
    have h4 : (m + 1) * sz = sz + m * sz := by rw [Nat.succ_mul, Nat.add_comm]
    simp only [List.set_cons_succ, cellsL_cons, h2]
    rw [List.take_append, List.drop_append, List.take_of_length_le (show v.cells.toList.length ≤ (m + 1) * sz by omega), List.drop_eq_nil_of_le (show v.cells.toList.length ≤ (m + 1) * sz + sz by omega)]
    simp only [List.nil_append, List.append_assoc]
    rw [show (m + 1) * sz - v.cells.toList.length = m * sz by omega, show (m + 1) * sz + sz - v.cells.toList.length = m * sz + sz by omega]

section
variable {P : Program} {β : Gh} {H : Hp} {w : World}
/-- A row's cells, wherever it stands. -/
theorem Rep.rowAt (R : Rep β H w) {r : Row} (hr : r ∈ H.rows) : ∃ ws, DenL β r.es ws ∧ (∀ u ∈ ws, u.cells.size = r.sz) ∧ ws.length = r.n ∧
    ∀ a, r.A = some a → ∀ (j : Nat) (u : Value), (cellsL ws)[j]? = some u → w.cell? (a.add j) = some u := by
  obtain ⟨ws, h1, h2, h3, h4⟩ := R.row r hr
  refine ⟨ws, h1, h2, h3, fun a ha j u hu => ?_⟩
  split at h4
  · exact (R.g _ _ (h4.mem a ha j u hu)).1
  · obtain ⟨⟨h5, h6⟩, _⟩ := h4
    have h6' := h6
    rcases h6 with ⟨h6, _⟩ | ⟨g, cap, cur, e1, _⟩
    · rw [ha] at h6; cases h6
    · injection e1 with e1 _ _
      rw [ha] at e1
      injection e1 with e1
      subst e1
      exact World.ownsRow.cells (v := .slice r.A r.n r.c) (n := r.n) (size := r.sz) (e := r.e) (base := 0) ⟨h5, h6'⟩ (g := g) (by rw [ha]; rfl) j u hu
end

/-! ### Loads and stores -/
def ldC (i : TI) (cs : List SV) (o : Nat) (k : SV → Prop) : Prop :=
  match i.agg with
  | true => nd (sub cs o i.size) fun l => lf l fun l => k (.agg l)
  | false => nd (nth cs o) k
def ldS (H : Hp) (i : TI) (s : SV) (k : SV → Hp → Prop) : Prop :=
  match s with
  | .loc b o => nd (nth H.boxes b) fun x => match x with
    | .c cs => ldC i cs o fun s => k s H
    | _ => False
  | .ro cs o => ldC i cs o fun s => k s H
  | .optr ri a o => nd (nth H.rows ri) fun r => r.A = some a ∧ ∃ m f, o = m * r.sz + f ∧ nd (nth r.es m) fun e => ldC i (cells e) f fun s => k s H
  | _ => False
def setBox (H : Hp) (b : Nat) (cs : List SV) (k : Hp → Prop) : Prop :=
  match H with
  | ⟨nb, B, rs⟩ => lf (B.set b (.c cs)) fun bs => k ⟨nb, bs, rs⟩
theorem setBox_eq {H : Hp} {b : Nat} {cs : List SV} {k : Hp → Prop} (h : setBox H b cs k) : k { H with boxes := H.boxes.set b (.c cs) } := by
  cases H
  simp only [setBox, lf_eq] at h
  exact h
def setRow (H : Hp) (ri : Nat) (r : Row) (k : Hp → Prop) : Prop :=
  match H with
  | ⟨nb, B, rs⟩ => lf (rs.set ri r) fun rs => k ⟨nb, B, rs⟩
theorem setRow_eq {H : Hp} {ri : Nat} {r : Row} {k : Hp → Prop} (h : setRow H ri r k) : k { H with rows := H.rows.set ri r } := by
  cases H
  simp only [setRow, lf_eq] at h
  exact h
/-- An element, of which some cells are others. -/
def stE (e : SV) (f : Nat) (y : List SV) : Option SV :=
  match e with
  | .agg l => match splice l f y with
    | some l' => some (.agg l')
    | none => none
  | e => match cells e, f, y with
    | [_], 0, [s] => some s
    | _, _, _ => none
def stS (H : Hp) (i : TI) (s : SV) (y : List SV) (k : SV → Hp → Prop) : Prop :=
  match Nat.beq y.length i.size, ones y with
  | true, true => match s with
    | .loc b o => nd (nth H.boxes b) fun x => match x with
      | .c cs => nd (splice cs o y) fun cs => lf cs fun cs => setBox H b cs fun H' => k (.v undef) H'
      | _ => False
    | .optr ri a o => nd (nth H.rows ri) fun r => r.A = some a ∧ r.fro = false ∧ ∃ m f, o = m * r.sz + f ∧ nd (nth r.es m) fun e => nd (stE e f y) fun e' =>
        setRow H ri { r with es := r.es.set m e' } fun H' => k (.v undef) H'
    | _ => False
  | _, _ => False

section
variable {P : Program} {β : Gh} {H : Hp} {w : World}
theorem run_loadVar_cells {t : TypeId} {i : TI} (ti : TInfo P t i) (w : World) (a : Addr) (l : List Value) (hl : l.length = i.size) (ha : i.agg = true)
    (h : ∀ j u, l[j]? = some u → w.cell? (a.add j) = some u) : (loadVar t a).run P w = .ok (.agg l.toArray) w := by
  have h1 := run_loadCells_list (P := P) w a l h
  rw [hl] at h1
  simp [loadVar, ti.run_agg, ti.run_size, ha, h1]
theorem run_loadVar_one {t : TypeId} {i : TI} (ti : TInfo P t i) (w : World) (a : Addr) (u : Value) (ha : i.agg = false)
    (h : w.cell? a = some u) : (loadVar t a).run P w = .ok u w := by
  simp [loadVar, ti.run_agg, ha, load, Sem.run, h]
theorem ldC_run {t : TypeId} {i : TI} (ti : TInfo P t i) {cs : List SV} {xs : List Value} (hd : DenL β cs xs) {a : Addr} {o : Nat} (hc : ∀ (j : Nat) (u : Value), xs[j]? = some u → w.cell? (a.add j) = some u)
    {k : SV → Prop} (h : ldC i cs o k) : ∃ y s', (loadVar t (a.add o)).run P w = .ok y w ∧ Den β s' y ∧ k s' := by
  unfold ldC at h
  split at h
  · rename_i ha
    obtain ⟨l, hl, h⟩ := nd_elim h
    rw [lf_eq] at h
    have hs := sub_eq hl
    have hdl := DenL.sub hd hl
    refine ⟨_, .agg l, run_loadVar_cells ti w _ _ ?_ ha ?_, ⟨_, hdl, rfl⟩, h⟩
    · have := hd.length; simp; omega
    · intro j u hj
      rw [add_add]
      simp only [List.getElem?_take, List.getElem?_drop] at hj
      split at hj
      · exact hc _ _ hj
      · cases hj
  · rename_i ha
    obtain ⟨s1, hs1, h⟩ := nd_elim h
    rw [nth_eq] at hs1
    obtain ⟨y, hy, hd1⟩ := hd.get hs1
    exact ⟨y, s1, run_loadVar_one ti w _ _ ha (hc _ _ hy), hd1, h⟩
theorem ldS_run (R : Rep β H w) {t : TypeId} {i : TI} (ti : TInfo P t i) {s : SV} {x : Value} (hx : Den β s x) {k : SV → Hp → Prop} (h : ldS H i s k) :
    ∃ y s', (Instr.loadAt t x).run P w = .ok y w ∧ Den β s' y ∧ k s' H := by
  unfold ldS at h
  split at h
  · rename_i b o
    obtain ⟨bb, hb, rfl⟩ := hx
    obtain ⟨x, hcs, h⟩ := nd_elim h
    split at h
    case h_2 => exact h.elim
    rename_i cs
    rw [nth_eq] at hcs
    obtain ⟨xs, ty, hd, hh⟩ := R.box b _ bb hcs hb
    have hcell : ∀ (j : Nat) (u : Value), xs[j]? = some u → w.cell? ((⟨bb, 0, none⟩ : Addr).add j) = some u := fun j u hu => by
      rw [addr0, cell_of_row w bb j xs.toArray ty _ hh]; simpa using hu
    obtain ⟨y, s', h1, h2, h3⟩ := ldC_run (P := P) ti hd hcell h
    rw [addr0] at h1
    exact ⟨y, s', by simp only [Instr.loadAt, Instr.sureAddr, Sem.run_bind, Sem.run_pure, Result.andThen_ok]; exact h1, h2, h3⟩
  · rename_i cs o
    obtain ⟨a, ws, hd, hc, rfl⟩ := hx
    obtain ⟨y, s', h1, h2, h3⟩ := ldC_run (P := P) ti hd (fun j u hu => (R.g _ _ (hc j u hu)).1) h
    exact ⟨y, s', by simp only [Instr.loadAt, Instr.sureAddr, Sem.run_bind, Sem.run_pure, Result.andThen_ok]; exact h1, h2, h3⟩
  · rename_i ri a o
    simp only [Den] at hx
    subst hx
    replace h := nd_elim h
    obtain ⟨r, hr, hA, m, f, rfl, h⟩ := h
    replace h := nd_elim h
    obtain ⟨e, he, h⟩ := h
    rw [nth_eq] at hr he
    obtain ⟨ws, h1, h2, h3, h4⟩ := R.rowAt (List.mem_of_getElem? hr)
    obtain ⟨u, hu, hdu⟩ := h1.get he
    obtain ⟨y, s', g1, g2, g3⟩ := ldC_run (P := P) (w := w) (a := a.add (m * r.sz)) ti (den_cells hdu) (fun j x hx => by rw [add_add]; exact h4 a hA _ _ (cellsL_get h2 hu hx)) h
    rw [add_add] at g1
    exact ⟨y, s', by simp only [Instr.loadAt, Instr.sureAddr, Sem.run_bind, Sem.run_pure, Result.andThen_ok]; exact g1, g2, g3⟩
  · exact h.elim

/-! ### One row is changed; it may come to lie in a new block -/
theorem fm_set {l : List Row} {i : Nat} {r r' : Row} (h : l[i]? = some r) (b : Nat) (hb : b ∈ (l.set i r').filterMap Row.blk) : b ∈ l.filterMap Row.blk ∨ r'.blk = some b := by
  obtain ⟨x, hx, hxb⟩ := List.mem_filterMap.1 hb
  rcases List.mem_or_eq_of_mem_set hx with hx | hx
  · exact .inl (List.mem_filterMap.2 ⟨x, hx, hxb⟩)
  · subst hx; exact .inr hxb
theorem fm_nodup : ∀ {l : List Row} {i : Nat} {r r' : Row}, l[i]? = some r → (l.filterMap Row.blk).Nodup → (∀ b, r'.blk = some b → r.blk = some b ∨ b ∉ l.filterMap Row.blk) →
    ((l.set i r').filterMap Row.blk).Nodup
  | [], _, _, _, h, _, _ => by simp at h
  | a :: l, 0, r, r', h, hn, hb => by
    simp at h
    subst h
    simp only [List.set_cons_zero, List.filterMap_cons]
    have h1 : (l.filterMap Row.blk).Nodup := by
      rw [List.filterMap_cons] at hn
      split at hn
      · exact hn
      · exact (List.nodup_cons.1 hn).2
    split
    · exact h1
    · rename_i b hr'
      refine List.nodup_cons.2 ⟨?_, h1⟩
      rcases hb b hr' with h2 | h2
      · rw [List.filterMap_cons, h2] at hn
        exact (List.nodup_cons.1 hn).1
      · intro hm
        apply h2
        rw [List.filterMap_cons]
        split
        · exact hm
        · exact List.mem_cons_of_mem _ hm
  | a :: l, i + 1, r, r', h, hn, hb => by
    simp at h
    simp only [List.set_cons_succ, List.filterMap_cons]
    have h1 : (l.filterMap Row.blk).Nodup := by
      rw [List.filterMap_cons] at hn
      split at hn
      · exact hn
      · exact (List.nodup_cons.1 hn).2
    have ih := fm_nodup (r' := r') h h1 fun b hr' => by
      rcases hb b hr' with h2 | h2
      · exact .inl h2
      · refine .inr fun hm => h2 ?_
        rw [List.filterMap_cons]
        split
        · exact hm
        · exact List.mem_cons_of_mem _ hm
    split
    · exact ih
    · rename_i b ha
      refine List.nodup_cons.2 ⟨fun hm => ?_, ih⟩
      rw [List.filterMap_cons, ha] at hn
      have hnot := (List.nodup_cons.1 hn).1
      rcases fm_set h b hm with h3 | h3
      · exact hnot h3
      · rcases hb b h3 with h4 | h4
        · exact hnot (List.mem_filterMap.2 ⟨r, List.mem_of_getElem? h, h4⟩)
        · exact h4 (by rw [List.filterMap_cons, ha]; exact List.mem_cons_self ..)
theorem fm_inj : ∀ {l : List Row} {i k : Nat} {a b : Row} {g : Nat}, (l.filterMap Row.blk).Nodup → l[i]? = some a → l[k]? = some b → a.blk = some g → b.blk = some g → i = k
  | [], i, k, a, b, g, _, h, _, _, _ => by simp at h
  | x :: l, 0, 0, a, b, g, _, _, _, _, _ => rfl
  | x :: l, 0, k + 1, a, b, g, hn, h1, h2, h3, h4 => by
    simp at h1 h2
    subst h1
    rw [List.filterMap_cons, h3] at hn
    exact absurd (List.mem_filterMap.2 ⟨b, List.mem_of_getElem? h2, h4⟩) (List.nodup_cons.1 hn).1
  | x :: l, i + 1, 0, a, b, g, hn, h1, h2, h3, h4 => by
    simp at h1 h2
    subst h2
    rw [List.filterMap_cons, h4] at hn
    exact absurd (List.mem_filterMap.2 ⟨a, List.mem_of_getElem? h1, h3⟩) (List.nodup_cons.1 hn).1
  | x :: l, i + 1, k + 1, a, b, g, hn, h1, h2, h3, h4 => by
    simp at h1 h2
    have h1' : (l.filterMap Row.blk).Nodup := by
      rw [List.filterMap_cons] at hn
      split at hn
      · exact hn
      · exact (List.nodup_cons.1 hn).2
    exact congrArg (· + 1) (fm_inj h1' h1 h2 h3 h4)

/-- Rows that are kept where a block of one's own, or a new one, is turned. -/
theorem Rep.rowSet (R : Rep β H w) {ri : Nat} {r r' : Row} {w' : World} (hr : H.rows[ri]? = some r) (ho : RowOk β w' r') (hw : w'.os = w.os ∧ w'.tape = w.tape ∧ w'.output = w.output ∧ w.heap.size ≤ w'.heap.size)
    (hg : ∀ k, k < w.heap.size → r.blk ≠ some k → w'.heap[k]? = w.heap[k]?) (hb : ∀ b, r'.blk = some b → r.blk = some b ∨ w.heap.size ≤ b) :
    Rep β { H with rows := H.rows.set ri r' } w' ∧ Ext β H w β { H with rows := H.rows.set ri r' } w' := by
  obtain ⟨hw1, hw2, hw3, hw4⟩ := hw
  have hrm : r ∈ H.rows := List.mem_of_getElem? hr
  have hnd := List.nodup_append.1 R.nd
  have hnew : ∀ b, w.heap.size ≤ b → b ∉ owned β H := fun b hb hm => by have := R.blt b hm; omega
  have hmem : ∀ b, b ∈ owned β { H with rows := H.rows.set ri r' } → b ∈ owned β H ∨ w.heap.size ≤ b := by
    intro b hm
    rcases List.mem_append.1 hm with hm | hm
    · exact .inl (List.mem_append_left _ hm)
    · rcases fm_set hr b hm with hm | hm
      · exact .inl (List.mem_append_right _ hm)
      · rcases hb b hm with h | h
        · exact .inl (List.mem_append_right _ (List.mem_filterMap.2 ⟨r, hrm, h⟩))
        · exact .inr h
  refine ⟨⟨R.len, R.nb, ?_, ?_, ?_, ?_⟩, ⟨Gle.refl _, ⟨hw1, hw2, hw3, hw4, fun k hk hkn => hg k hk fun e => hkn (List.mem_append_right _ (List.mem_filterMap.2 ⟨r, hrm, e⟩))⟩, hmem, fun _ _ h => .inl h⟩⟩
  · intro i x b hi hbi
    have h1 := R.box i x b hi hbi
    exact h1.mono (Gle.refl _) hw4 (hg b h1.lt (R.notrow (List.mem_of_getElem? hbi) hrm))
  · intro r1 hr1
    obtain ⟨k, hk, rfl⟩ := List.mem_iff_getElem.1 hr1
    by_cases hkr : ri = k
    · subst hkr
      simp only [List.getElem_set_self]
      exact ho
    · simp only [List.getElem_set_ne hkr]
      have hk' : k < H.rows.length := by simpa using hk
      refine (R.row _ (List.getElem_mem hk')).mono (Gle.refl _) hw4 fun b hb => hg b ((R.row _ (List.getElem_mem hk')).lt hb) fun e => ?_
      exact hkr (fm_inj hnd.2.1 hr (List.getElem?_eq_getElem hk') e hb)
  · refine List.nodup_append.2 ⟨hnd.1, fm_nodup hr hnd.2.1 fun b hb' => ?_, ?_⟩
    · rcases hb b hb' with h | h
      · exact .inl h
      · exact .inr fun hm => hnew b h (List.mem_append_right _ hm)
    · intro x hx y hy e
      subst e
      rcases fm_set hr x hy with h | h
      · exact hnd.2.2 x hx x h rfl
      · rcases hb x h with h | h
        · exact hnd.2.2 x hx x (List.mem_filterMap.2 ⟨r, hrm, h⟩) rfl
        · exact hnew x h (List.mem_append_left _ hx)
  · intro a v hav
    obtain ⟨h5, h6⟩ := R.g a v hav
    have hlt := World.block_lt_of_cell? w a h5
    refine ⟨?_, fun hm => ?_⟩
    · rw [World.cell?_of_block (w := w) (hg a.block hlt fun e => h6 (List.mem_append_right _ (List.mem_filterMap.2 ⟨r, hrm, e⟩)))]; exact h5
    · rcases hmem _ hm with h | h
      · exact h6 h
      · omega
/-- A row is new. -/
theorem Rep.rowAdd (R : Rep β H w) {r' : Row} {w' : World} (ho : RowOk β w' r') (hw : w'.os = w.os ∧ w'.tape = w.tape ∧ w'.output = w.output ∧ w.heap.size ≤ w'.heap.size)
    (hg : ∀ k, k < w.heap.size → w'.heap[k]? = w.heap[k]?) (hb : ∀ b, r'.blk = some b → w.heap.size ≤ b) :
    Rep β { H with rows := H.rows ++ [r'] } w' ∧ Ext β H w β { H with rows := H.rows ++ [r'] } w' := by
  obtain ⟨hw1, hw2, hw3, hw4⟩ := hw
  have hnd := List.nodup_append.1 R.nd
  have hnew : ∀ b, w.heap.size ≤ b → b ∉ owned β H := fun b hb hm => by have := R.blt b hm; omega
  have hfm : (H.rows ++ [r']).filterMap Row.blk = H.rows.filterMap Row.blk ++ r'.blk.toList := by
    rw [List.filterMap_append]
    cases h : r'.blk <;> simp [List.filterMap_cons, h]
  have hmem : ∀ b, b ∈ owned β { H with rows := H.rows ++ [r'] } → b ∈ owned β H ∨ w.heap.size ≤ b := by
    intro b hm
    rcases List.mem_append.1 hm with hm | hm
    · exact .inl (List.mem_append_left _ hm)
    · simp only [hfm] at hm
      rcases List.mem_append.1 hm with hm | hm
      · exact .inl (List.mem_append_right _ hm)
      · exact .inr (hb b (by simpa using hm))
  refine ⟨⟨R.len, R.nb, ?_, ?_, ?_, ?_⟩, ⟨Gle.refl _, ⟨hw1, hw2, hw3, hw4, fun k hk _ => hg k hk⟩, hmem, fun _ _ h => .inl h⟩⟩
  · intro i x b hi hbi
    have h1 := R.box i x b hi hbi
    exact h1.mono (Gle.refl _) hw4 (hg b h1.lt)
  · intro r1 hr1
    rcases List.mem_append.1 hr1 with hr1 | hr1
    · exact (R.row _ hr1).mono (Gle.refl _) hw4 fun b hb => hg b ((R.row _ hr1).lt hb)
    · simp at hr1; subst hr1; exact ho
  · have e : owned β { H with rows := H.rows ++ [r'] } = owned β H ++ r'.blk.toList := by simp only [owned, hfm, List.append_assoc]
    rw [e]
    refine List.nodup_append.2 ⟨R.nd, by cases r'.blk <;> simp, fun x hx y hy e => ?_⟩
    subst e
    exact hnew x (hb x (by simpa using hy)) hx
  · intro a v hav
    obtain ⟨h5, h6⟩ := R.g a v hav
    have hlt := World.block_lt_of_cell? w a h5
    refine ⟨?_, fun hm => ?_⟩
    · rw [World.cell?_of_block (w := w) (hg a.block hlt)]; exact h5
    · rcases hmem _ hm with h | h
      · exact h6 h
      · omega

theorem stS_run (R : Rep β H w) {t : TypeId} {i : TI} (ti : TInfo P t i) {s sy : SV} {x y : Value} (hx : Den β s x) (hy : Den β sy y) {k : SV → Hp → Prop} (h : stS H i s (cells sy) k) :
    ∃ w' H', (Instr.storeAt t x y).run P w = .ok () w' ∧ Rep β H' w' ∧ Ext β H w β H' w' ∧ k (.v undef) H' := by
  have hyc := den_cells hy
  unfold stS at h
  split at h
  case h_2 => exact h.elim
  rename_i hb1 hb2
  have hsz : (cells sy).length = i.size := Nat.eq_of_beq_eq_true hb1
  have h1 := ones_cell hb2 hyc
  have hys : y.cells.size = i.size := by have := hyc.length; simpa [hsz] using this
  have hsv : ∀ a : Addr, (storeVar t a y).run P w = (storeCells a y.cells.toList).run P w := by
    intro a
    simp only [storeVar, Sem.run_bind, ti.run_size, Result.andThen_ok]
    rw [if_neg (by simpa using hys)]
  split at h
  · rename_i b o
    obtain ⟨bb, hb, rfl⟩ := hx
    obtain ⟨x, hcs, h⟩ := nd_elim h
    split at h
    case h_2 => exact h.elim
    rename_i cs
    obtain ⟨cs', hcs', h⟩ := nd_elim h
    rw [lf_eq] at h
    replace h := setBox_eq h
    rw [nth_eq] at hcs
    obtain ⟨xs, ty, hd, hh⟩ := R.box b _ bb hcs hb
    have hsp := splice_eq hcs'
    have hdl := DenL.splice hd hyc hcs'
    have hl1 := hd.length
    have hl2 := hyc.length
    obtain ⟨R', X'⟩ := R.set hcs hb hdl
    refine ⟨_, _, ?_, R', X', h⟩
    simp only [Instr.storeAt, Instr.sureAddr, Sem.run_bind, Sem.run_pure, Result.andThen_ok, hsv]
    have := run_storeCells_at (P := P) bb o ty y.cells.toList 0 xs.toArray w hh (by simp at hl2 ⊢; omega) h1
    simpa only [Nat.add_zero] using this
  · rename_i ri a o
    simp only [Den] at hx
    subst hx
    replace h := nd_elim h
    obtain ⟨r, hr, hA, hfro, m, f, rfl, h⟩ := h
    replace h := nd_elim h
    obtain ⟨e, he, h⟩ := h
    replace h := nd_elim h
    obtain ⟨e', hcs, h⟩ := h
    replace h := setRow_eq h
    rw [nth_eq] at hr he
    have hrm := List.mem_of_getElem? hr
    obtain ⟨ws, g1, g2, g3, g4⟩ := R.row r hrm
    rw [hfro] at g4
    obtain ⟨⟨g5, g6⟩, g7⟩ := g4
    rcases g6 with ⟨g6, _⟩ | ⟨g, cap, cur, e1, g8, g9, g10, g11, g12, g13⟩
    · rw [hA] at g6; cases g6
    have hcap : cap = r.c := by injection e1 with _ _ e3; exact e3.symm
    have hAg : r.A = some ⟨g, 0, none⟩ := by injection e1
    have hag : a = ⟨g, 0, none⟩ := by rw [hA] at hAg; exact Option.some.inj hAg
    subst hag
    obtain ⟨u, hu, hdu⟩ := g1.get he
    have hum : u ∈ ws := List.mem_of_getElem? hu
    have husz := g2 u hum
    have hyl := hyc.length
    have hmlt : m < ws.length := (List.getElem?_eq_some_iff.1 hu).1
    have hrb : r.blk = some g := by simp only [Row.blk, hfro, hA, Option.map_some]
    -- the new element
    obtain ⟨u', hdu', huc, hfl⟩ : ∃ u', Den β e' u' ∧ u'.cells.toList = u.cells.toList.take f ++ y.cells.toList ++ u.cells.toList.drop (f + y.cells.toList.length) ∧ f + y.cells.toList.length ≤ r.sz := by
      have hc := den_cells hdu
      have hcl := hc.length
      unfold stE at hcs
      split at hcs
      · rename_i l
        split at hcs
        case h_2 => cases hcs
        rename_i l' hl'
        injection hcs with hcs
        subst hcs
        have h3 := DenL.splice hc hyc hl'
        have h4 := splice_eq hl'
        refine ⟨_, ⟨_, h3, rfl⟩, by simp [Value.cells], ?_⟩
        have : (cells (SV.agg l)).length = l.length := rfl
        simp only [Array.length_toList] at hcl hyl ⊢
        omega
      · split at hcs
        case h_2 => cases hcs
        rename_i s0 hs0 hs1
        injection hcs with hcs
        subst hcs
        rw [hs0] at hcl
        rw [hs1] at hyc hyl
        obtain ⟨y0, zs, h3, h4, h5⟩ := hyc
        simp only [DenL] at h4
        subst h4
        have hone := h1 y0 (by rw [h5]; simp)
        refine ⟨y0, h3, ?_, ?_⟩
        · rw [h5]
          simp only [List.take_zero, List.nil_append, List.length_singleton, Nat.zero_add]
          rw [List.drop_eq_nil_of_le (by simp at hcl ⊢; omega)]
          cases y0 <;> first | rfl | (simp [Value.oneCell'] at hone)
        · simp only [Array.length_toList, List.length_singleton] at hcl hyl ⊢
          omega
    have hsz' : u'.cells.size = r.sz := by
      have h3 := congrArg List.length huc
      simp only [List.length_append, List.length_take, List.length_drop, Array.length_toList] at h3 hfl
      omega
    have hcl : (cellsL ws).length = ws.length * r.sz := cellsL_length g2
    have hm1 : (m + 1) * r.sz ≤ ws.length * r.sz := Nat.mul_le_mul_right _ hmlt
    rw [Nat.succ_mul] at hm1
    have hcur : (cellsL ws).length ≤ cur.size := by
      rw [hcl, g3, g12]; exact Nat.mul_le_mul_right _ g10
    have hst := run_storeCells_at (P := P) g (m * r.sz + f) r.e y.cells.toList 0 cur w g9 (by omega) h1
    rw [Nat.add_zero] at hst
    have hset : cellsL (ws.set m u') = (cellsL ws).take (m * r.sz + f) ++ y.cells.toList ++ (cellsL ws).drop (m * r.sz + f + y.cells.toList.length) := by
      rw [cellsL_set g2 hmlt hsz', huc]
      have e3 := cellsL_at g2 hu
      rw [← e3]
      have e4 : ((cellsL ws).drop (m * r.sz)).take r.sz = ((cellsL ws).drop (m * r.sz)).take r.sz := rfl
      rw [List.take_take, List.drop_take, List.drop_drop]
      have e5 : (cellsL ws).take (m * r.sz + f) = (cellsL ws).take (m * r.sz) ++ ((cellsL ws).drop (m * r.sz)).take f := by
        rw [List.take_add]
      have e6 : (cellsL ws).drop (m * r.sz + f + y.cells.toList.length) = ((cellsL ws).drop (m * r.sz + (f + y.cells.toList.length))).take (r.sz - (f + y.cells.toList.length)) ++ (cellsL ws).drop (m * r.sz + r.sz) := by
        rw [← List.take_append_drop (r.sz - (f + y.cells.toList.length)) ((cellsL ws).drop (m * r.sz + f + y.cells.toList.length)), List.drop_drop]
        rw [Nat.add_assoc, show m * r.sz + (f + y.cells.toList.length) + (r.sz - (f + y.cells.toList.length)) = m * r.sz + r.sz by omega]
      rw [e5, e6, Nat.min_eq_left (by omega)]
      simp only [List.append_assoc]
    generalize hnew : ((cur.toList.take (m * r.sz + f) ++ y.cells.toList ++ cur.toList.drop (m * r.sz + f + y.cells.toList.length)).toArray) = new at hst
    have hnews : new.size = cur.size := by subst hnew; simp; omega
    have hro : RowOk β (w.setRow g new) { r with es := r.es.set m e' } := by
      refine ⟨ws.set m u', g1.set m hdu', ?_, by simp [g3], ?_⟩
      · intro x hx
        rcases List.mem_or_eq_of_mem_set hx with hx | hx
        · exact g2 x hx
        · subst hx; exact hsz'
      · simp only [hfro]
        refine ⟨⟨by rw [cellsL_length (sz := r.sz) (by intro x hx; rcases List.mem_or_eq_of_mem_set hx with hx | hx; exact g2 x hx; subst hx; exact hsz'), List.length_set, g3], .inr ⟨g, cap, new, e1, g8, setRow_heap w g cur new r.e _ g9, g10, g11, by rw [hnews, g12], ?_⟩⟩, ?_⟩
        · rw [hset, ← g13]
          subst hnew
          have hN : m * r.sz + f + y.cells.toList.length ≤ r.n * r.sz := by rw [g3] at hm1; omega
          have hC : r.n * r.sz ≤ cur.size := by rw [hcl, g3] at hcur; exact hcur
          rw [List.take_take, Nat.min_eq_left (by omega), List.drop_take]
          simp only [List.append_assoc]
          rw [List.take_append, List.take_of_length_le (by simp only [List.length_take, Array.length_toList]; omega)]
          congr 1
          have e7 : r.n * r.sz - (cur.toList.take (m * r.sz + f)).length = r.n * r.sz - (m * r.sz + f) := by simp only [List.length_take, Array.length_toList]; omega
          rw [e7, List.take_append, List.take_of_length_le (by omega)]
          congr 2
          omega
        · intro x hx
          rw [hset] at hx
          rcases List.mem_append.1 hx with hx | hx
          · rcases List.mem_append.1 hx with hx | hx
            · exact g7 x (List.mem_of_mem_take hx)
            · exact h1 x hx
          · exact g7 x (List.mem_of_mem_drop hx)
    obtain ⟨R', X'⟩ := R.rowSet hr hro ⟨rfl, rfl, rfl, by simp⟩ (fun k _ hk => setRow_other _ _ _ _ (fun e => hk (by rw [e]; exact hrb))) fun b hb => .inl (by simpa [Row.blk] using hb)
    refine ⟨_, _, ?_, R', X', h⟩
    simp only [Instr.storeAt, Instr.sureAddr, Sem.run_bind, Sem.run_pure, Result.andThen_ok, hsv]
    rw [addr0]
    exact hst
  · exact h.elim
end
end Go.Sy

