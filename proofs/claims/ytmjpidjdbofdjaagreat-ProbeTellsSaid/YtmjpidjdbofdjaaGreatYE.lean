import Derived.Test.YtmjpidjdbofdjaaGreatYC
import Derived.Laws.StructEq
import Derived.Laws.MakeOwn
import Derived.Laws.IdiomStrings
import Derived.Laws.BytesString
/- Sy, parts D, E. -/
set_option linter.unusedVariables false
set_option linter.unusedSimpArgs false
/- Sy, part D: operations on memory. -/
namespace Go.Sy
open Go

theorem addr0 (g j : Nat) : (⟨g, 0, none⟩ : Addr).add j = ⟨g, j, none⟩ := by unfold Addr.add; split <;> simp_all
theorem addrO (g o j : Nat) : (⟨g, o, none⟩ : Addr).add j = ⟨g, o + j, none⟩ := by unfold Addr.add; split <;> simp_all
theorem add_zero (a : Addr) : a.add 0 = a := by unfold Addr.add; simp
theorem add_add (a : Addr) (i j : Nat) : (a.add i).add j = a.add (i + j) := by
  unfold Addr.add
  by_cases hi : i = 0
  · subst hi; simp
  · by_cases hj : j = 0
    · subst hj; simp [hi]
    · simp [hi, hj, Nat.add_assoc]
theorem add_block (a : Addr) (i : Nat) : (a.add i).block = a.block := by unfold Addr.add; split <;> rfl

/-! ### Cells of equal values, side by side -/
theorem cellsL_nil : cellsL [] = [] := rfl
theorem cellsL_cons (u : Value) (r : List Value) : cellsL (u :: r) = u.cells.toList ++ cellsL r := rfl
theorem cellsL_append (l r : List Value) : cellsL (l ++ r) = cellsL l ++ cellsL r := by simp [cellsL]
theorem cellsL_length {sz : Nat} : ∀ {ws : List Value}, (∀ u ∈ ws, u.cells.size = sz) → (cellsL ws).length = ws.length * sz
  | [], _ => by simp [cellsL]
  | u :: r, h => by
    have h1 := h u (by simp)
    have h2 := cellsL_length (ws := r) fun x hx => h x (List.mem_cons_of_mem _ hx)
    rw [cellsL_cons, List.length_append, h2, List.length_cons, Nat.succ_mul]
    simp [h1, Nat.add_comm]
theorem cellsL_take {sz : Nat} : ∀ {ws : List Value} (n : Nat), (∀ u ∈ ws, u.cells.size = sz) → cellsL (ws.take n) = (cellsL ws).take (n * sz)
  | [], n, _ => by simp [cellsL]
  | u :: r, 0, _ => by simp [cellsL]
  | u :: r, n + 1, h => by
    have h1 := h u (by simp)
    have h2 := cellsL_take (ws := r) n fun x hx => h x (List.mem_cons_of_mem _ hx)
    have h3 : u.cells.toList.length = sz := by simp [h1]
    have h4 : (n + 1) * sz = sz + n * sz := by rw [Nat.succ_mul, Nat.add_comm]
    rw [List.take_succ_cons, cellsL_cons, cellsL_cons, h2, List.take_append, List.take_of_length_le (show u.cells.toList.length ≤ (n + 1) * sz by omega)]
    congr 2
    omega
theorem cellsL_drop {sz : Nat} : ∀ {ws : List Value} (n : Nat), (∀ u ∈ ws, u.cells.size = sz) → cellsL (ws.drop n) = (cellsL ws).drop (n * sz)
  | [], n, _ => by simp [cellsL]
  | u :: r, 0, _ => by simp
  | u :: r, n + 1, h => by
    have h1 := h u (by simp)
    have h2 := cellsL_drop (ws := r) n fun x hx => h x (List.mem_cons_of_mem _ hx)
    have h3 : u.cells.toList.length = sz := by simp [h1]
    have h4 : (n + 1) * sz = sz + n * sz := by rw [Nat.succ_mul, Nat.add_comm]
    rw [List.drop_succ_cons, cellsL_cons, h2, List.drop_append, List.drop_eq_nil_of_le (show u.cells.toList.length ≤ (n + 1) * sz by omega), List.nil_append]
    congr 1
    omega
theorem cellsL_at {sz : Nat} {ws : List Value} {m : Nat} {u : Value} (h : ∀ u ∈ ws, u.cells.size = sz) (hm : ws[m]? = some u) : ((cellsL ws).drop (m * sz)).take sz = u.cells.toList := by
  obtain ⟨hlt, rfl⟩ := List.getElem?_eq_some_iff.1 hm
  have hs := h _ (List.getElem_mem hlt)
  rw [← cellsL_drop m h, List.drop_eq_getElem_cons hlt, cellsL_cons, List.take_append_of_le_length (by simp [hs]), List.take_of_length_le (by simp [hs])]
theorem cellsL_get {sz : Nat} {ws : List Value} {m j : Nat} {u x : Value} (h : ∀ u ∈ ws, u.cells.size = sz) (hm : ws[m]? = some u) (hj : u.cells.toList[j]? = some x) : (cellsL ws)[m * sz + j]? = some x := by
  rw [← cellsL_at h hm, List.getElem?_take, List.getElem?_drop] at hj
  split at hj
  · exact hj
  · cases hj
theorem cellsL_set {sz : Nat} : ∀ {ws : List Value} {m : Nat} {u : Value}, (∀ u ∈ ws, u.cells.size = sz) → m < ws.length → u.cells.size = sz →
    cellsL (ws.set m u) = (cellsL ws).take (m * sz) ++ u.cells.toList ++ (cellsL ws).drop (m * sz + sz)
  | [], m, u, _, hm, _ => by simp at hm
  | v :: r, 0, u, h, _, hu => by
    have h1 := h v (by simp)
    simp only [List.set_cons_zero, cellsL_cons, Nat.zero_mul, List.take_zero, List.nil_append, Nat.zero_add]
    rw [List.drop_append, List.drop_eq_nil_of_le (by simp [h1])]
    simp [h1]
  | v :: r, m + 1, u, h, hm, hu => by
    have h1 := h v (by simp)
    have h2 := cellsL_set (ws := r) (m := m) (u := u) (fun x hx => h x (List.mem_cons_of_mem _ hx)) (by simpa using hm) hu
    have h3 : v.cells.toList.length = sz := by simp [h1]
    have h4 : (m + 1) * sz = sz + m * sz := by rw [Nat.succ_mul, Nat.add_comm]
    simp only [List.set_cons_succ, cellsL_cons, h2]
    rw [List.take_append, List.drop_append, List.take_of_length_le (show v.cells.toList.length ≤ (m + 1) * sz by omega), List.drop_eq_nil_of_le (show v.cells.toList.length ≤ (m + 1) * sz + sz by omega)]
    simp only [List.nil_append, List.append_assoc]
    rw [show (m + 1) * sz - v.cells.toList.length = m * sz by omega, show (m + 1) * sz + sz - v.cells.toList.length = m * sz + sz by omega]

section
variable {P : Program} {β : Gh} {H : Hp} {w : World}
/-- A row's cells, wherever it stands. -/
theorem Rep.rowAt (R : Rep β H w) {r : Row} (hr : r ∈ H.rows) : ∃ ws, DenL β r.es ws ∧ (∀ u ∈ ws, u.cells.size = r.sz) ∧ ws.length = r.n ∧
    ∀ a, r.A = some a → ∀ (j : Nat) (u : Value), (cellsL ws)[j]? = some u → w.cell? (a.add j) = some u := by
  obtain ⟨ws, h1, h2, h3, h4⟩ := R.row r hr
  refine ⟨ws, h1, h2, h3, fun a ha j u hu => ?_⟩
  split at h4
  · exact (R.g _ _ (h4.mem a ha j u hu)).1
  · obtain ⟨⟨h5, h6⟩, _⟩ := h4
    have h6' := h6
    rcases h6 with ⟨h6, _⟩ | ⟨g, cap, cur, e1, _⟩
    · rw [ha] at h6; cases h6
    · injection e1 with e1 _ _
      rw [ha] at e1
      injection e1 with e1
      subst e1
      exact World.ownsRow.cells (v := .slice r.A r.n r.c) (n := r.n) (size := r.sz) (e := r.e) (base := 0) ⟨h5, h6'⟩ (g := g) (by rw [ha]; rfl) j u hu
end

/-! ### Loads and stores -/
def ldC (i : TI) (cs : List SV) (o : Nat) (k : SV → Prop) : Prop :=
  match i.agg with
  | true => nd (sub cs o i.size) fun l => lf l fun l => k (.agg l)
  | false => nd (nth cs o) k
def ldS (H : Hp) (i : TI) (s : SV) (k : SV → Hp → Prop) : Prop :=
  match s with
  | .loc b o => nd (nth H.boxes b) fun x => match x with
    | .c cs => ldC i cs o fun s => k s H
    | _ => False
  | .ro cs o => ldC i cs o fun s => k s H
  | .optr ri a o => nd (nth H.rows ri) fun r => r.A = some a ∧ ∃ m f, o = m * r.sz + f ∧ nd (nth r.es m) fun e => ldC i (cells e) f fun s => k s H
  | _ => False
def setBox (H : Hp) (b : Nat) (cs : List SV) (k : Hp → Prop) : Prop :=
  match H with
  | ⟨nb, B, rs⟩ => lf (B.set b (.c cs)) fun bs => k ⟨nb, bs, rs⟩
theorem setBox_eq {H : Hp} {b : Nat} {cs : List SV} {k : Hp → Prop} (h : setBox H b cs k) : k { H with boxes := H.boxes.set b (.c cs) } := by
  cases H
  simp only [setBox, lf_eq] at h
  exact h
def setRow (H : Hp) (ri : Nat) (r : Row) (k : Hp → Prop) : Prop :=
  match H with
  | ⟨nb, B, rs⟩ => lf (rs.set ri r) fun rs => k ⟨nb, B, rs⟩
theorem setRow_eq {H : Hp} {ri : Nat} {r : Row} {k : Hp → Prop} (h : setRow H ri r k) : k { H with rows := H.rows.set ri r } := by
  cases H
  simp only [setRow, lf_eq] at h
  exact h
/-- An element, of which some cells are others. -/
def stE (e : SV) (f : Nat) (y : List SV) : Option SV :=
  match e with
  | .agg l => match splice l f y with
    | some l' => some (.agg l')
    | none => none
  | e => match cells e, f, y with
    | [_], 0, [s] => some s
    | _, _, _ => none
def stS (H : Hp) (i : TI) (s : SV) (y : List SV) (k : SV → Hp → Prop) : Prop :=
  match Nat.beq y.length i.size, ones y with
  | true, true => match s with
    | .loc b o => nd (nth H.boxes b) fun x => match x with
      | .c cs => nd (splice cs o y) fun cs => lf cs fun cs => setBox H b cs fun H' => k (.v undef) H'
      | _ => False
    | .optr ri a o => nd (nth H.rows ri) fun r => r.A = some a ∧ r.fro = false ∧ ∃ m f, o = m * r.sz + f ∧ nd (nth r.es m) fun e => nd (stE e f y) fun e' =>
        setRow H ri { r with es := r.es.set m e' } fun H' => k (.v undef) H'
    | _ => False
  | _, _ => False

section
variable {P : Program} {β : Gh} {H : Hp} {w : World}
theorem run_loadVar_cells {t : TypeId} {i : TI} (ti : TInfo P t i) (w : World) (a : Addr) (l : List Value) (hl : l.length = i.size) (ha : i.agg = true)
    (h : ∀ j u, l[j]? = some u → w.cell? (a.add j) = some u) : (loadVar t a).run P w = .ok (.agg l.toArray) w := by
  have h1 := run_loadCells_list (P := P) w a l h
  rw [hl] at h1
  simp [loadVar, ti.run_agg, ti.run_size, ha, h1]
theorem run_loadVar_one {t : TypeId} {i : TI} (ti : TInfo P t i) (w : World) (a : Addr) (u : Value) (ha : i.agg = false)
    (h : w.cell? a = some u) : (loadVar t a).run P w = .ok u w := by
  simp [loadVar, ti.run_agg, ha, load, Sem.run, h]
theorem ldC_run {t : TypeId} {i : TI} (ti : TInfo P t i) {cs : List SV} {xs : List Value} (hd : DenL β cs xs) {a : Addr} {o : Nat} (hc : ∀ (j : Nat) (u : Value), xs[j]? = some u → w.cell? (a.add j) = some u)
    {k : SV → Prop} (h : ldC i cs o k) : ∃ y s', (loadVar t (a.add o)).run P w = .ok y w ∧ Den β s' y ∧ k s' := by
  unfold ldC at h
  split at h
  · rename_i ha
    obtain ⟨l, hl, h⟩ := nd_elim h
    rw [lf_eq] at h
    have hs := sub_eq hl
    have hdl := DenL.sub hd hl
    refine ⟨_, .agg l, run_loadVar_cells ti w _ _ ?_ ha ?_, ⟨_, hdl, rfl⟩, h⟩
    · have := hd.length; simp; omega
    · intro j u hj
      rw [add_add]
      simp only [List.getElem?_take, List.getElem?_drop] at hj
      split at hj
      · exact hc _ _ hj
      · cases hj
  · rename_i ha
    obtain ⟨s1, hs1, h⟩ := nd_elim h
    rw [nth_eq] at hs1
    obtain ⟨y, hy, hd1⟩ := hd.get hs1
    exact ⟨y, s1, run_loadVar_one ti w _ _ ha (hc _ _ hy), hd1, h⟩
theorem ldS_run (R : Rep β H w) {t : TypeId} {i : TI} (ti : TInfo P t i) {s : SV} {x : Value} (hx : Den β s x) {k : SV → Hp → Prop} (h : ldS H i s k) :
    ∃ y s', (Instr.loadAt t x).run P w = .ok y w ∧ Den β s' y ∧ k s' H := by
  unfold ldS at h
  split at h
  · rename_i b o
    obtain ⟨bb, hb, rfl⟩ := hx
    obtain ⟨x, hcs, h⟩ := nd_elim h
    split at h
    case h_2 => exact h.elim
    rename_i cs
    rw [nth_eq] at hcs
    obtain ⟨xs, ty, hd, hh⟩ := R.box b _ bb hcs hb
    have hcell : ∀ (j : Nat) (u : Value), xs[j]? = some u → w.cell? ((⟨bb, 0, none⟩ : Addr).add j) = some u := fun j u hu => by
      rw [addr0, cell_of_row w bb j xs.toArray ty _ hh]; simpa using hu
    obtain ⟨y, s', h1, h2, h3⟩ := ldC_run (P := P) ti hd hcell h
    rw [addr0] at h1
    exact ⟨y, s', by simp only [Instr.loadAt, Instr.sureAddr, Sem.run_bind, Sem.run_pure, Result.andThen_ok]; exact h1, h2, h3⟩
  · rename_i cs o
    obtain ⟨a, ws, hd, hc, rfl⟩ := hx
    obtain ⟨y, s', h1, h2, h3⟩ := ldC_run (P := P) ti hd (fun j u hu => (R.g _ _ (hc j u hu)).1) h
    exact ⟨y, s', by simp only [Instr.loadAt, Instr.sureAddr, Sem.run_bind, Sem.run_pure, Result.andThen_ok]; exact h1, h2, h3⟩
  · rename_i ri a o
    simp only [Den] at hx
    subst hx
    replace h := nd_elim h
    obtain ⟨r, hr, hA, m, f, rfl, h⟩ := h
    replace h := nd_elim h
    obtain ⟨e, he, h⟩ := h
    rw [nth_eq] at hr he
    obtain ⟨ws, h1, h2, h3, h4⟩ := R.rowAt (List.mem_of_getElem? hr)
    obtain ⟨u, hu, hdu⟩ := h1.get he
    obtain ⟨y, s', g1, g2, g3⟩ := ldC_run (P := P) (w := w) (a := a.add (m * r.sz)) ti (den_cells hdu) (fun j x hx => by rw [add_add]; exact h4 a hA _ _ (cellsL_get h2 hu hx)) h
    rw [add_add] at g1
    exact ⟨y, s', by simp only [Instr.loadAt, Instr.sureAddr, Sem.run_bind, Sem.run_pure, Result.andThen_ok]; exact g1, g2, g3⟩
  · exact h.elim

/-! ### One row is changed; it may come to lie in a new block -/
theorem fm_set {l : List Row} {i : Nat} {r r' : Row} (h : l[i]? = some r) (b : Nat) (hb : b ∈ (l.set i r').filterMap Row.blk) : b ∈ l.filterMap Row.blk ∨ r'.blk = some b := by
  obtain ⟨x, hx, hxb⟩ := List.mem_filterMap.1 hb
  rcases List.mem_or_eq_of_mem_set hx with hx | hx
  · exact .inl (List.mem_filterMap.2 ⟨x, hx, hxb⟩)
  · subst hx; exact .inr hxb
theorem fm_nodup : ∀ {l : List Row} {i : Nat} {r r' : Row}, l[i]? = some r → (l.filterMap Row.blk).Nodup → (∀ b, r'.blk = some b → r.blk = some b ∨ b ∉ l.filterMap Row.blk) →
    ((l.set i r').filterMap Row.blk).Nodup
  | [], _, _, _, h, _, _ => by simp at h
  | a :: l, 0, r, r', h, hn, hb => by
    simp at h
    subst h
    simp only [List.set_cons_zero, List.filterMap_cons]
    have h1 : (l.filterMap Row.blk).Nodup := by
      rw [List.filterMap_cons] at hn
      split at hn
      · exact hn
      · exact (List.nodup_cons.1 hn).2
    split
    · exact h1
    · rename_i b hr'
      refine List.nodup_cons.2 ⟨?_, h1⟩
      rcases hb b hr' with h2 | h2
      · rw [List.filterMap_cons, h2] at hn
        exact (List.nodup_cons.1 hn).1
      · intro hm
        apply h2
        rw [List.filterMap_cons]
        split
        · exact hm
        · exact List.mem_cons_of_mem _ hm
  | a :: l, i + 1, r, r', h, hn, hb => by
    simp at h
    simp only [List.set_cons_succ, List.filterMap_cons]
    have h1 : (l.filterMap Row.blk).Nodup := by
      rw [List.filterMap_cons] at hn
      split at hn
      · exact hn
      · exact (List.nodup_cons.1 hn).2
    have ih := fm_nodup (r' := r') h h1 fun b hr' => by
      rcases hb b hr' with h2 | h2
      · exact .inl h2
      · refine .inr fun hm => h2 ?_
        rw [List.filterMap_cons]
        split
        · exact hm
        · exact List.mem_cons_of_mem _ hm
    split
    · exact ih
    · rename_i b ha
      refine List.nodup_cons.2 ⟨fun hm => ?_, ih⟩
      rw [List.filterMap_cons, ha] at hn
      have hnot := (List.nodup_cons.1 hn).1
      rcases fm_set h b hm with h3 | h3
      · exact hnot h3
      · rcases hb b h3 with h4 | h4
        · exact hnot (List.mem_filterMap.2 ⟨r, List.mem_of_getElem? h, h4⟩)
        · exact h4 (by rw [List.filterMap_cons, ha]; exact List.mem_cons_self ..)
theorem fm_inj : ∀ {l : List Row} {i k : Nat} {a b : Row} {g : Nat}, (l.filterMap Row.blk).Nodup → l[i]? = some a → l[k]? = some b → a.blk = some g → b.blk = some g → i = k
  | [], i, k, a, b, g, _, h, _, _, _ => by simp at h
  | x :: l, 0, 0, a, b, g, _, _, _, _, _ => rfl
  | x :: l, 0, k + 1, a, b, g, hn, h1, h2, h3, h4 => by
    simp at h1 h2
    subst h1
    rw [List.filterMap_cons, h3] at hn
    exact absurd (List.mem_filterMap.2 ⟨b, List.mem_of_getElem? h2, h4⟩) (List.nodup_cons.1 hn).1
  | x :: l, i + 1, 0, a, b, g, hn, h1, h2, h3, h4 => by
    simp at h1 h2
    subst h2
    rw [List.filterMap_cons, h4] at hn
    exact absurd (List.mem_filterMap.2 ⟨a, List.mem_of_getElem? h1, h3⟩) (List.nodup_cons.1 hn).1
  | x :: l, i + 1, k + 1, a, b, g, hn, h1, h2, h3, h4 => by
    simp at h1 h2
    have h1' : (l.filterMap Row.blk).Nodup := by
      rw [List.filterMap_cons] at hn
      split at hn
      · exact hn
      · exact (List.nodup_cons.1 hn).2
    exact congrArg (· + 1) (fm_inj h1' h1 h2 h3 h4)

/-- Rows that are kept where a block of one's own, or a new one, is turned. -/
theorem Rep.rowSet (R : Rep β H w) {ri : Nat} {r r' : Row} {w' : World} (hr : H.rows[ri]? = some r) (ho : RowOk β w' r') (hw : w'.os = w.os ∧ w'.tape = w.tape ∧ w'.output = w.output ∧ w.heap.size ≤ w'.heap.size)
    (hg : ∀ k, k < w.heap.size → r.blk ≠ some k → w'.heap[k]? = w.heap[k]?) (hb : ∀ b, r'.blk = some b → r.blk = some b ∨ w.heap.size ≤ b) :
    Rep β { H with rows := H.rows.set ri r' } w' ∧ Ext β H w β { H with rows := H.rows.set ri r' } w' := by
  obtain ⟨hw1, hw2, hw3, hw4⟩ := hw
  have hrm : r ∈ H.rows := List.mem_of_getElem? hr
  have hnd := List.nodup_append.1 R.nd
  have hnew : ∀ b, w.heap.size ≤ b → b ∉ owned β H := fun b hb hm => by have := R.blt b hm; omega
  have hmem : ∀ b, b ∈ owned β { H with rows := H.rows.set ri r' } → b ∈ owned β H ∨ w.heap.size ≤ b := by
    intro b hm
    rcases List.mem_append.1 hm with hm | hm
    · exact .inl (List.mem_append_left _ hm)
    · rcases fm_set hr b hm with hm | hm
      · exact .inl (List.mem_append_right _ hm)
      · rcases hb b hm with h | h
        · exact .inl (List.mem_append_right _ (List.mem_filterMap.2 ⟨r, hrm, h⟩))
        · exact .inr h
  refine ⟨⟨R.len, R.nb, ?_, ?_, ?_, ?_⟩, ⟨Gle.refl _, ⟨hw1, hw2, hw3, hw4, fun k hk hkn => hg k hk fun e => hkn (List.mem_append_right _ (List.mem_filterMap.2 ⟨r, hrm, e⟩))⟩, hmem, fun _ _ h => .inl h⟩⟩
  · intro i x b hi hbi
    have h1 := R.box i x b hi hbi
    exact h1.mono (Gle.refl _) hw4 (hg b h1.lt (R.notrow (List.mem_of_getElem? hbi) hrm))
  · intro r1 hr1
    obtain ⟨k, hk, rfl⟩ := List.mem_iff_getElem.1 hr1
    by_cases hkr : ri = k
    · subst hkr
      simp only [List.getElem_set_self]
      exact ho
    · simp only [List.getElem_set_ne hkr]
      have hk' : k < H.rows.length := by simpa using hk
      refine (R.row _ (List.getElem_mem hk')).mono (Gle.refl _) hw4 fun b hb => hg b ((R.row _ (List.getElem_mem hk')).lt hb) fun e => ?_
      exact hkr (fm_inj hnd.2.1 hr (List.getElem?_eq_getElem hk') e hb)
  · refine List.nodup_append.2 ⟨hnd.1, fm_nodup hr hnd.2.1 fun b hb' => ?_, ?_⟩
    · rcases hb b hb' with h | h
      · exact .inl h
      · exact .inr fun hm => hnew b h (List.mem_append_right _ hm)
    · intro x hx y hy e
      subst e
      rcases fm_set hr x hy with h | h
      · exact hnd.2.2 x hx x h rfl
      · rcases hb x h with h | h
        · exact hnd.2.2 x hx x (List.mem_filterMap.2 ⟨r, hrm, h⟩) rfl
        · exact hnew x h (List.mem_append_left _ hx)
  · intro a v hav
    obtain ⟨h5, h6⟩ := R.g a v hav
    have hlt := World.block_lt_of_cell? w a h5
    refine ⟨?_, fun hm => ?_⟩
    · rw [World.cell?_of_block (w := w) (hg a.block hlt fun e => h6 (List.mem_append_right _ (List.mem_filterMap.2 ⟨r, hrm, e⟩)))]; exact h5
    · rcases hmem _ hm with h | h
      · exact h6 h
      · omega
/-- A row is new. -/
theorem Rep.rowAdd (R : Rep β H w) {r' : Row} {w' : World} (ho : RowOk β w' r') (hw : w'.os = w.os ∧ w'.tape = w.tape ∧ w'.output = w.output ∧ w.heap.size ≤ w'.heap.size)
    (hg : ∀ k, k < w.heap.size → w'.heap[k]? = w.heap[k]?) (hb : ∀ b, r'.blk = some b → w.heap.size ≤ b) :
    Rep β { H with rows := H.rows ++ [r'] } w' ∧ Ext β H w β { H with rows := H.rows ++ [r'] } w' := by
  obtain ⟨hw1, hw2, hw3, hw4⟩ := hw
  have hnd := List.nodup_append.1 R.nd
  have hnew : ∀ b, w.heap.size ≤ b → b ∉ owned β H := fun b hb hm => by have := R.blt b hm; omega
  have hfm : (H.rows ++ [r']).filterMap Row.blk = H.rows.filterMap Row.blk ++ r'.blk.toList := by
    rw [List.filterMap_append]
    cases h : r'.blk <;> simp [List.filterMap_cons, h]
  have hmem : ∀ b, b ∈ owned β { H with rows := H.rows ++ [r'] } → b ∈ owned β H ∨ w.heap.size ≤ b := by
    intro b hm
    rcases List.mem_append.1 hm with hm | hm
    · exact .inl (List.mem_append_left _ hm)
    · simp only [hfm] at hm
      rcases List.mem_append.1 hm with hm | hm
      · exact .inl (List.mem_append_right _ hm)
      · exact .inr (hb b (by simpa using hm))
  refine ⟨⟨R.len, R.nb, ?_, ?_, ?_, ?_⟩, ⟨Gle.refl _, ⟨hw1, hw2, hw3, hw4, fun k hk _ => hg k hk⟩, hmem, fun _ _ h => .inl h⟩⟩
  · intro i x b hi hbi
    have h1 := R.box i x b hi hbi
    exact h1.mono (Gle.refl _) hw4 (hg b h1.lt)
  · intro r1 hr1
    rcases List.mem_append.1 hr1 with hr1 | hr1
    · exact (R.row _ hr1).mono (Gle.refl _) hw4 fun b hb => hg b ((R.row _ hr1).lt hb)
    · simp at hr1; subst hr1; exact ho
  · have e : owned β { H with rows := H.rows ++ [r'] } = owned β H ++ r'.blk.toList := by simp only [owned, hfm, List.append_assoc]
    rw [e]
    refine List.nodup_append.2 ⟨R.nd, by cases r'.blk <;> simp, fun x hx y hy e => ?_⟩
    subst e
    exact hnew x (hb x (by simpa using hy)) hx
  · intro a v hav
    obtain ⟨h5, h6⟩ := R.g a v hav
    have hlt := World.block_lt_of_cell? w a h5
    refine ⟨?_, fun hm => ?_⟩
    · rw [World.cell?_of_block (w := w) (hg a.block hlt)]; exact h5
    · rcases hmem _ hm with h | h
      · exact h6 h
      · omega

theorem stS_run (R : Rep β H w) {t : TypeId} {i : TI} (ti : TInfo P t i) {s sy : SV} {x y : Value} (hx : Den β s x) (hy : Den β sy y) {k : SV → Hp → Prop} (h : stS H i s (cells sy) k) :
    ∃ w' H', (Instr.storeAt t x y).run P w = .ok () w' ∧ Rep β H' w' ∧ Ext β H w β H' w' ∧ k (.v undef) H' := by
  have hyc := den_cells hy
  unfold stS at h
  split at h
  case h_2 => exact h.elim
  rename_i hb1 hb2
  have hsz : (cells sy).length = i.size := Nat.eq_of_beq_eq_true hb1
  have h1 := ones_cell hb2 hyc
  have hys : y.cells.size = i.size := by have := hyc.length; simpa [hsz] using this
  have hsv : ∀ a : Addr, (storeVar t a y).run P w = (storeCells a y.cells.toList).run P w := by
    intro a
    simp only [storeVar, Sem.run_bind, ti.run_size, Result.andThen_ok]
    rw [if_neg (by simpa using hys)]
  split at h
  · rename_i b o
    obtain ⟨bb, hb, rfl⟩ := hx
    obtain ⟨x, hcs, h⟩ := nd_elim h
    split at h
    case h_2 => exact h.elim
    rename_i cs
    obtain ⟨cs', hcs', h⟩ := nd_elim h
    rw [lf_eq] at h
    replace h := setBox_eq h
    rw [nth_eq] at hcs
    obtain ⟨xs, ty, hd, hh⟩ := R.box b _ bb hcs hb
    have hsp := splice_eq hcs'
    have hdl := DenL.splice hd hyc hcs'
    have hl1 := hd.length
    have hl2 := hyc.length
    obtain ⟨R', X'⟩ := R.set hcs hb hdl
    refine ⟨_, _, ?_, R', X', h⟩
    simp only [Instr.storeAt, Instr.sureAddr, Sem.run_bind, Sem.run_pure, Result.andThen_ok, hsv]
    have := run_storeCells_at (P := P) bb o ty y.cells.toList 0 xs.toArray w hh (by simp at hl2 ⊢; omega) h1
    simpa only [Nat.add_zero] using this
  · rename_i ri a o
    simp only [Den] at hx
    subst hx
    replace h := nd_elim h
    obtain ⟨r, hr, hA, hfro, m, f, rfl, h⟩ := h
    replace h := nd_elim h
    obtain ⟨e, he, h⟩ := h
    replace h := nd_elim h
    obtain ⟨e', hcs, h⟩ := h
    replace h := setRow_eq h
    rw [nth_eq] at hr he
    have hrm := List.mem_of_getElem? hr
    obtain ⟨ws, g1, g2, g3, g4⟩ := R.row r hrm
    rw [hfro] at g4
    obtain ⟨⟨g5, g6⟩, g7⟩ := g4
    rcases g6 with ⟨g6, _⟩ | ⟨g, cap, cur, e1, g8, g9, g10, g11, g12, g13⟩
    · rw [hA] at g6; cases g6
    have hcap : cap = r.c := by injection e1 with _ _ e3; exact e3.symm
    have hAg : r.A = some ⟨g, 0, none⟩ := by injection e1
    have hag : a = ⟨g, 0, none⟩ := by rw [hA] at hAg; exact Option.some.inj hAg
    subst hag
    obtain ⟨u, hu, hdu⟩ := g1.get he
    have hum : u ∈ ws := List.mem_of_getElem? hu
    have husz := g2 u hum
    have hyl := hyc.length
    have hmlt : m < ws.length := (List.getElem?_eq_some_iff.1 hu).1
    have hrb : r.blk = some g := by simp only [Row.blk, hfro, hA, Option.map_some]
    -- the new element
    obtain ⟨u', hdu', huc, hfl⟩ : ∃ u', Den β e' u' ∧ u'.cells.toList = u.cells.toList.take f ++ y.cells.toList ++ u.cells.toList.drop (f + y.cells.toList.length) ∧ f + y.cells.toList.length ≤ r.sz := by
      have hc := den_cells hdu
      have hcl := hc.length
      unfold stE at hcs
      split at hcs
      · rename_i l
        split at hcs
        case h_2 => cases hcs
        rename_i l' hl'
        injection hcs with hcs
        subst hcs
        have h3 := DenL.splice hc hyc hl'
        have h4 := splice_eq hl'
        refine ⟨_, ⟨_, h3, rfl⟩, by simp [Value.cells], ?_⟩
        have : (cells (SV.agg l)).length = l.length := rfl
        simp only [Array.length_toList] at hcl hyl ⊢
        omega
      · split at hcs
        case h_2 => cases hcs
        rename_i s0 hs0 hs1
        injection hcs with hcs
        subst hcs
        rw [hs0] at hcl
        rw [hs1] at hyc hyl
        obtain ⟨y0, zs, h3, h4, h5⟩ := hyc
        simp only [DenL] at h4
        subst h4
        have hone := h1 y0 (by rw [h5]; simp)
        refine ⟨y0, h3, ?_, ?_⟩
        · rw [h5]
          simp only [List.take_zero, List.nil_append, List.length_singleton, Nat.zero_add]
          rw [List.drop_eq_nil_of_le (by simp at hcl ⊢; omega)]
          cases y0 <;> first | rfl | (simp [Value.oneCell'] at hone)
        · simp only [Array.length_toList, List.length_singleton] at hcl hyl ⊢
          omega
    have hsz' : u'.cells.size = r.sz := by
      have h3 := congrArg List.length huc
      simp only [List.length_append, List.length_take, List.length_drop, Array.length_toList] at h3 hfl
      omega
    have hcl : (cellsL ws).length = ws.length * r.sz := cellsL_length g2
    have hm1 : (m + 1) * r.sz ≤ ws.length * r.sz := Nat.mul_le_mul_right _ hmlt
    rw [Nat.succ_mul] at hm1
    have hcur : (cellsL ws).length ≤ cur.size := by
      rw [hcl, g3, g12]; exact Nat.mul_le_mul_right _ g10
    have hst := run_storeCells_at (P := P) g (m * r.sz + f) r.e y.cells.toList 0 cur w g9 (by omega) h1
    rw [Nat.add_zero] at hst
    have hset : cellsL (ws.set m u') = (cellsL ws).take (m * r.sz + f) ++ y.cells.toList ++ (cellsL ws).drop (m * r.sz + f + y.cells.toList.length) := by
      rw [cellsL_set g2 hmlt hsz', huc]
      have e3 := cellsL_at g2 hu
      rw [← e3]
      have e4 : ((cellsL ws).drop (m * r.sz)).take r.sz = ((cellsL ws).drop (m * r.sz)).take r.sz := rfl
      rw [List.take_take, List.drop_take, List.drop_drop]
      have e5 : (cellsL ws).take (m * r.sz + f) = (cellsL ws).take (m * r.sz) ++ ((cellsL ws).drop (m * r.sz)).take f := by
        rw [List.take_add]
      have e6 : (cellsL ws).drop (m * r.sz + f + y.cells.toList.length) = ((cellsL ws).drop (m * r.sz + (f + y.cells.toList.length))).take (r.sz - (f + y.cells.toList.length)) ++ (cellsL ws).drop (m * r.sz + r.sz) := by
        rw [← List.take_append_drop (r.sz - (f + y.cells.toList.length)) ((cellsL ws).drop (m * r.sz + f + y.cells.toList.length)), List.drop_drop]
        rw [Nat.add_assoc, show m * r.sz + (f + y.cells.toList.length) + (r.sz - (f + y.cells.toList.length)) = m * r.sz + r.sz by omega]
      rw [e5, e6, Nat.min_eq_left (by omega)]
      simp only [List.append_assoc]
    generalize hnew : ((cur.toList.take (m * r.sz + f) ++ y.cells.toList ++ cur.toList.drop (m * r.sz + f + y.cells.toList.length)).toArray) = new at hst
    have hnews : new.size = cur.size := by subst hnew; simp; omega
    have hro : RowOk β (w.setRow g new) { r with es := r.es.set m e' } := by
      refine ⟨ws.set m u', g1.set m hdu', ?_, by simp [g3], ?_⟩
      · intro x hx
        rcases List.mem_or_eq_of_mem_set hx with hx | hx
        · exact g2 x hx
        · subst hx; exact hsz'
      · simp only [hfro]
        refine ⟨⟨by rw [cellsL_length (sz := r.sz) (by intro x hx; rcases List.mem_or_eq_of_mem_set hx with hx | hx; exact g2 x hx; subst hx; exact hsz'), List.length_set, g3], .inr ⟨g, cap, new, e1, g8, setRow_heap w g cur new r.e _ g9, g10, g11, by rw [hnews, g12], ?_⟩⟩, ?_⟩
        · rw [hset, ← g13]
          subst hnew
          have hN : m * r.sz + f + y.cells.toList.length ≤ r.n * r.sz := by rw [g3] at hm1; omega
          have hC : r.n * r.sz ≤ cur.size := by rw [hcl, g3] at hcur; exact hcur
          rw [List.take_take, Nat.min_eq_left (by omega), List.drop_take]
          simp only [List.append_assoc]
          rw [List.take_append, List.take_of_length_le (by simp only [List.length_take, Array.length_toList]; omega)]
          congr 1
          have e7 : r.n * r.sz - (cur.toList.take (m * r.sz + f)).length = r.n * r.sz - (m * r.sz + f) := by simp only [List.length_take, Array.length_toList]; omega
          rw [e7, List.take_append, List.take_of_length_le (by omega)]
          congr 2
          omega
        · intro x hx
          rw [hset] at hx
          rcases List.mem_append.1 hx with hx | hx
          · rcases List.mem_append.1 hx with hx | hx
            · exact g7 x (List.mem_of_mem_take hx)
            · exact h1 x hx
          · exact g7 x (List.mem_of_mem_drop hx)
    obtain ⟨R', X'⟩ := R.rowSet hr hro ⟨rfl, rfl, rfl, by simp⟩ (fun k _ hk => setRow_other _ _ _ _ (fun e => hk (by rw [e]; exact hrb))) fun b hb => .inl (by simpa [Row.blk] using hb)
    refine ⟨_, _, ?_, R', X', h⟩
    simp only [Instr.storeAt, Instr.sureAddr, Sem.run_bind, Sem.run_pure, Result.andThen_ok, hsv]
    rw [addr0]
    exact hst
  · exact h.elim
end
end Go.Sy

/- Sy, part E: lists that are published; literals. -/
namespace Go.Sy
open Go

/-! ### A new block whose cells nobody will write -/
def extG (g : Addr → Option Value) (b : Nat) (xs : List Value) : Addr → Option Value := fun a => if a.block = b ∧ a.spot = none then xs[a.off]? else g a
section
variable {P : Program} {β : Gh} {H : Hp} {w : World}
theorem extG_old (R : Rep β H w) (xs : List Value) : ∀ a v, β.g a = some v → extG β.g w.heap.size xs a = some v := by
  intro a v h
  have hlt := World.block_lt_of_cell? w a (R.g a v h).1
  unfold extG
  rw [if_neg (fun e => by omega)]; exact h
/-- Cells of a new block (told in whatever way) are handed over. -/
theorem Rep.pubAt (R : Rep β H w) {w' : World} {cs : Array Value} {t : TypeId} {fz : Nat × Nat} (xs : List Value) (hx : ∀ (j : Nat) (u : Value), xs[j]? = some u → cs[j]? = some u)
    (hh : w'.heap[w.heap.size]? = some (.cells cs t fz)) (hw : w'.os = w.os ∧ w'.tape = w.tape ∧ w'.output = w.output ∧ w.heap.size < w'.heap.size) (ho : ∀ k, k < w.heap.size → w'.heap[k]? = w.heap[k]?) :
    Rep ⟨β.b, extG β.g w.heap.size xs⟩ H w' ∧ Ext β H w ⟨β.b, extG β.g w.heap.size xs⟩ H w' := by
  obtain ⟨hw1, hw2, hw3, hw4⟩ := hw
  have hpre : Gle β ⟨β.b, extG β.g w.heap.size xs⟩ := ⟨List.prefix_refl _, extG_old R xs⟩
  have hO := R.blt
  refine ⟨⟨R.len, R.nb, ?_, ?_, R.nd, ?_⟩, ⟨hpre, ⟨hw1, hw2, hw3, by omega, fun k hk _ => ho k hk⟩, fun _ h => .inl h, ?_⟩⟩
  · intro i x b hi hb
    have h1 := R.box i x b hi hb
    exact h1.mono hpre (by omega) (ho b h1.lt)
  · intro r hr
    exact (R.row r hr).mono hpre (by omega) fun b hb => ho b ((R.row r hr).lt hb)
  · intro a v hg
    simp only [extG] at hg
    split at hg
    · rename_i hab
      refine ⟨?_, fun hm => by have := hO _ hm; omega⟩
      have := cell_of_row w' a.block a.off cs t fz (by rw [hab.1]; exact hh)
      obtain ⟨b, o, s⟩ := a
      simp only at hab this hg
      obtain ⟨rfl, rfl⟩ := hab
      rw [this]; exact hx _ _ hg
    · obtain ⟨h1, h2⟩ := R.g a v hg
      have hlt := World.block_lt_of_cell? w a h1
      exact ⟨by rw [World.cell?_of_block (w := w) (ho a.block hlt)]; exact h1, h2⟩
  · intro a v hg
    simp only [extG] at hg
    split at hg
    · rename_i hab; exact .inr (.inr (by omega))
    · exact .inl hg
theorem Rep.pubNew (R : Rep β H w) (xs : List Value) (t : TypeId) :
    Rep ⟨β.b, extG β.g w.heap.size xs⟩ H (w.alloc (.cells xs.toArray t)) ∧ Ext β H w ⟨β.b, extG β.g w.heap.size xs⟩ H (w.alloc (.cells xs.toArray t)) :=
  R.pubAt xs (fun j u h => by simpa using h) (heap_alloc_new _ _) ⟨rfl, rfl, rfl, by simp⟩ fun k hk => Go.RowKit.Below.heap_alloc _ _ _ hk
theorem slOk_new {g : Addr → Option Value} {b n : Nat} {full : Bool} {sz c : Nat} {ws : List Value} (hl : ws.length = n) (hc : n ≤ c) (hm : c ≤ maxLen) (hf : full = true → c = n) (hs : ∀ u ∈ ws, u.cells.size = sz) (h1 : ∀ u ∈ cellsL ws, u.oneCell' = true) (xs : List Value) (hx : ∀ (j : Nat) (u : Value), (cellsL ws)[j]? = some u → xs[j]? = some u) :
    SlOk (extG g b xs) full sz (some ⟨b, 0, none⟩) n c ws :=
  ⟨hl, hc, hm, (fun h => by cases h), hf, hs, h1, fun a ha j u hu => by
    injection ha with ha
    subst ha
    rw [addr0]
    show (if b = b ∧ (none : Option Nat) = none then xs[j]? else g ⟨b, j, none⟩) = some u
    rw [if_pos ⟨rfl, rfl⟩]
    exact hx j u hu⟩
end

/-! ### Literals of structs and arrays -/
def evParts (E : Env) : List (Nat × Operand) → Option (List (Nat × SV))
  | [] => some []
  | (i, x) :: r => match ev E x with
    | some s => match evParts E r with
      | some l => some ((i, s) :: l)
      | none => none
    | none => none
def place (d : TD) (i : Nat) : Option (Nat × Nat) :=
  match d with
  | .struct fs => match nth fs i with
    | some (o, n, _) => some (o, n)
    | none => none
  | .array _ es _ => some (i * es, es)
  | .slice _ es _ _ => some (i * es, es)
  | _ => none
def fillS (d : TD) : List SV → List (Nat × SV) → (List SV → Prop) → Prop
  | cs, [], k => k cs
  | cs, (i, s) :: r, k => nd (place d i) fun p => match Nat.beq (cells s).length p.2 with
    | true => nd (splice cs p.1 (cells s)) fun cs => lf cs fun cs => fillS d cs r k
    | false => False
/-- Elements of a slice's literal. -/
def fillE (es : Nat) : List SV → List (Nat × SV) → (List SV → Prop) → Prop
  | l, [], k => k l
  | l, (i, s) :: r, k => match Nat.beq (cells s).length es, Nat.blt i l.length with
    | true, true => lf (l.set i s) fun l => fillE es l r k
    | _, _ => False
def onesE : List SV → Bool
  | [] => true
  | e :: r => match ones (cells e) with | true => onesE r | false => false
theorem onesE_cell {β : Gh} : ∀ {l : List SV} {ws : List Value}, onesE l = true → DenL β l ws → ∀ u ∈ cellsL ws, u.oneCell' = true
  | [], _, _, h => by simp [DenL] at h; subst h; simp [cellsL]
  | e :: r, _, h, hd => by
    obtain ⟨y, zs, h1, h2, rfl⟩ := hd
    simp only [onesE] at h
    split at h
    case h_2 => cases h
    rename_i ho
    intro u hu
    rw [cellsL_cons] at hu
    rcases List.mem_append.1 hu with hu | hu
    · exact ones_cell ho (den_cells h1) u hu
    · exact onesE_cell h h2 u hu
def repE : Nat → SV → List SV
  | 0, _ => []
  | n + 1, z => z :: repE n z
theorem repE_eq (z : SV) : ∀ n, repE n z = List.replicate n z
  | 0 => rfl
  | n + 1 => by rw [repE, repE_eq z n]; rfl
/-- An element that is zero. -/
def zel (ag : Bool) (z : List Value) : Option SV :=
  match ag with
  | true => some (.agg (z.map .v))
  | false => match z with
    | [x] => match x.oneCell' with | true => some (.v x) | false => none
    | _ => none

theorem foldl_zip (off : Nat) : ∀ (l : List Value) (s : Nat) (cs : List Value), off + s + l.length ≤ cs.length →
    (l.zipIdx s).foldl (fun (cs : Array Value) (x : Value × Nat) => cs.setIfInBounds (off + x.2) x.1) cs.toArray = (cs.take (off + s) ++ l ++ cs.drop (off + s + l.length)).toArray
  | [], s, cs, h => by simp
  | v :: l, s, cs, h => by
    simp only [List.zipIdx_cons, List.foldl_cons]
    have hlt : off + s < cs.length := by simp at h; omega
    have e : (cs.toArray.setIfInBounds (off + s) v) = (cs.set (off + s) v).toArray := by simp
    rw [e, foldl_zip off l (s + 1) (cs.set (off + s) v) (by simp at h ⊢; omega)]
    congr 1
    have h1 : (cs.set (off + s) v).take (off + (s + 1)) = cs.take (off + s) ++ [v] := by
      rw [show off + (s + 1) = (off + s) + 1 by omega, List.take_succ_eq_append_getElem (by simpa using hlt), List.take_set_of_le (by omega)]
      simp
    have h2 : (cs.set (off + s) v).drop (off + (s + 1) + l.length) = cs.drop (off + s + (v :: l).length) := by
      rw [List.drop_set_of_lt (by omega)]
      congr 1
      simp
      omega
    rw [h1, h2]
    simp
theorem fill_step {d : Nat → Option (Nat × Nat)} {i off sz : Nat} {v : Value} {vs : List (Nat × Value)} {xs : List Value} (hp : d i = some (off, sz)) (hl : v.cells.size = sz) (hle : off + sz ≤ xs.length) :
    Instr.fill d xs.toArray ((i, v) :: vs) = Instr.fill d (xs.take off ++ v.cells.toList ++ xs.drop (off + v.cells.toList.length)).toArray vs := by
  simp only [Instr.fill, hp]
  rw [if_neg (by simp only [Bool.or_eq_true, decide_eq_true_eq]; simp; omega)]
  congr 1
  have := foldl_zip off v.cells.toList 0 xs (by simp; omega)
  rw [← Array.foldl_toList]
  simpa using this

section
variable {P : Program} {β : Gh} {H : Hp} {w : World}
theorem evParts_den {n b0 : Nat} {E : Env} {a : Act} (R : RepA n b0 β E H a w) : ∀ {l : List (Nat × Operand)} {ss : List (Nat × SV)},
    evParts E l = some ss → ss.map (·.1) = (l.map fun x => (x.1, a.eval x.2)).map (·.1) ∧ DenL β (ss.map (·.2)) ((l.map fun x => (x.1, a.eval x.2)).map (·.2))
  | [], _, h => by simp [evParts] at h; subst h; exact ⟨rfl, rfl⟩
  | (i, x) :: r, _, h => by
    simp only [evParts] at h
    split at h
    · rename_i s hs
      split at h
      · rename_i l hl
        injection h with h; subst h
        obtain ⟨h1, h2⟩ := evParts_den R hl
        exact ⟨by simpa using h1, _, _, ev_den R hs, h2, rfl⟩
      · cases h
    · cases h
theorem fillS_fill {d : TD} : ∀ {ps : List (Nat × SV)} {vs : List (Nat × Value)} {cs : List SV} {xs : List Value} {k : List SV → Prop},
    ps.map (·.1) = vs.map (·.1) → DenL β (ps.map (·.2)) (vs.map (·.2)) → DenL β cs xs → fillS d cs ps k → ∃ cs' xs', k cs' ∧ DenL β cs' xs' ∧ Instr.fill (place d) xs.toArray vs = some xs'.toArray
  | [], vs, cs, xs, k, h1, h2, h3, h => by
    cases vs with
    | nil => exact ⟨cs, xs, h, h3, rfl⟩
    | cons _ _ => simp at h1
  | (i, s) :: ps, vs, cs, xs, k, h1, h2, h3, h => by
    cases vs with
    | nil => simp at h1
    | cons v vs =>
      obtain ⟨i', v⟩ := v
      simp only [List.map_cons, List.cons.injEq] at h1
      obtain ⟨hi, h1⟩ := h1
      subst hi
      simp only [List.map_cons] at h2
      obtain ⟨y, zs, hy, hz, he⟩ := h2
      simp only [List.cons.injEq] at he
      obtain ⟨he1, he2⟩ := he
      subst he1
      simp only [fillS] at h
      obtain ⟨p, hp, h⟩ := nd_elim h
      split at h
      case h_2 => exact h.elim
      rename_i hb
      have hb := Nat.eq_of_beq_eq_true hb
      obtain ⟨cs1, hcs1, h⟩ := nd_elim h
      rw [lf_eq] at h
      have hyc := den_cells hy
      have hl := hyc.length
      have hl' : v.cells.size = p.2 := by rw [← hb, ← hl]; simp
      have hsp := splice_eq hcs1
      have hl3 := h3.length
      obtain ⟨cs', xs', hk, hd, hf⟩ := fillS_fill h1 (he2 ▸ hz) (DenL.splice h3 hyc hcs1) h
      refine ⟨cs', xs', hk, hd, ?_⟩
      obtain ⟨off, sz⟩ := p
      rw [fill_step hp hl' (by simp only at hb; omega)]
      exact hf
theorem fillE_fill {es : Nat} : ∀ {ps : List (Nat × SV)} {vs : List (Nat × Value)} {l : List SV} {ws : List Value} {k : List SV → Prop},
    ps.map (·.1) = vs.map (·.1) → DenL β (ps.map (·.2)) (vs.map (·.2)) → DenL β l ws → (∀ u ∈ ws, u.cells.size = es) → fillE es l ps k →
      ∃ l' ws', k l' ∧ DenL β l' ws' ∧ (∀ u ∈ ws', u.cells.size = es) ∧ ws'.length = ws.length ∧ Instr.fill (fun i => some (i * es, es)) (cellsL ws).toArray vs = some (cellsL ws').toArray
  | [], vs, l, ws, k, h1, h2, h3, hs, h => by
    cases vs with
    | nil => exact ⟨l, ws, h, h3, hs, rfl, rfl⟩
    | cons _ _ => simp at h1
  | (i, s) :: ps, vs, l, ws, k, h1, h2, h3, hs, h => by
    cases vs with
    | nil => simp at h1
    | cons v vs =>
      obtain ⟨i', v⟩ := v
      simp only [List.map_cons, List.cons.injEq] at h1
      obtain ⟨hi, h1⟩ := h1
      subst hi
      simp only [List.map_cons] at h2
      obtain ⟨y, zs, hy, hz, he⟩ := h2
      simp only [List.cons.injEq] at he
      obtain ⟨he1, he2⟩ := he
      subst he1
      simp only [fillE] at h
      split at h
      case h_2 => exact h.elim
      rename_i hb hlt
      have hb := Nat.eq_of_beq_eq_true hb
      have hlt : i < l.length := by rw [Nat.blt_eq] at hlt; exact hlt
      rw [lf_eq] at h
      have hyc := den_cells hy
      have hl := hyc.length
      have hl' : v.cells.size = es := by rw [← hb, ← hl]; simp
      have hl3 := h3.length
      have hs' : ∀ u ∈ ws.set i v, u.cells.size = es := by
        intro u hu
        rcases List.mem_or_eq_of_mem_set hu with hu | hu
        · exact hs u hu
        · subst hu; exact hl'
      obtain ⟨l2, ws2, hk, hd, hs2, hl2, hf⟩ := fillE_fill h1 (he2 ▸ hz) (h3.set i hy) hs' h
      refine ⟨l2, ws2, hk, hd, hs2, by simpa using hl2, ?_⟩
      have hcl := cellsL_length hs
      have hm : (i + 1) * es ≤ ws.length * es := Nat.mul_le_mul_right _ (by omega)
      rw [Nat.succ_mul] at hm
      rw [fill_step rfl hl' (by omega)]
      have e : (cellsL (ws.set i v)) = (cellsL ws).take (i * es) ++ v.cells.toList ++ (cellsL ws).drop (i * es + v.cells.toList.length) := by
        rw [cellsL_set hs (by omega) hl']
        simp [hl']
      rw [← e]
      exact hf
theorem zel_den {ag : Bool} {z : Value} {s : SV} (h : zel ag z.cells.toList = some s) : ∃ u, Den β s u ∧ u.cells = z.cells := by
  unfold zel at h
  split at h
  · injection h with h
    subst h
    exact ⟨.agg z.cells, ⟨_, DenL.plain _ _, by simp⟩, rfl⟩
  · split at h
    · rename_i x hx
      split at h
      · rename_i h1
        injection h with h
        subst h
        refine ⟨x, rfl, ?_⟩
        have : z.cells = #[x] := by rw [← hx]
        rw [this]
        cases x <;> first | rfl | (simp [Value.oneCell'] at h1)
      · cases h
    · cases h
theorem DenL.rep {s : SV} {u : Value} (h : Den β s u) : ∀ n, DenL β (List.replicate n s) (List.replicate n u)
  | 0 => rfl
  | n + 1 => ⟨u, _, h, DenL.rep h n, rfl⟩
theorem cellsL_rep (u : Value) : ∀ n, cellsL (List.replicate n u) = (List.replicate n u.cells.toList).flatten
  | 0 => rfl
  | n + 1 => by rw [List.replicate_succ, cellsL_cons, cellsL_rep u n, List.replicate_succ, List.flatten_cons]
theorem madeCells_eq (z : Array Value) (n : Nat) : (Array.range (n * z.size)).map (z[· % z.size]!) = ((List.replicate n z.toList).flatten).toArray := by
  apply Array.ext'
  apply List.ext_getElem?
  intro j
  have hfl : ∀ n j, j < n * z.size → ((List.replicate n z.toList).flatten)[j]? = z.toList[j % z.size]? := by
    intro n
    induction n with
    | zero => intro j h; simp at h
    | succ n ih =>
      intro j h
      rw [List.replicate_succ, List.flatten_cons]
      rcases Nat.lt_or_ge j z.size with hlt | hge
      · rw [List.getElem?_append_left (by simpa using hlt), Nat.mod_eq_of_lt hlt]
      · rw [List.getElem?_append_right (by simpa using hge), ih _ (by rw [Nat.succ_mul] at h; simp only [Array.length_toList]; omega), Nat.mod_eq_sub_mod hge]
        simp
  have hlen : ((List.replicate n z.toList).flatten).length = n * z.size := by simp [List.length_flatten]
  simp only [Array.toList_map, Array.toList_range, List.getElem?_map]
  rcases Nat.lt_or_ge j (n * z.size) with hlt | hge
  · have hz : 0 < z.size := by
      cases hzs : z.size with
      | zero => simp [hzs] at hlt
      | succ m => exact Nat.succ_pos m
    have hm := Nat.mod_lt j hz
    rw [hfl n j hlt]
    simp [hlt, hm]
  · have hn : ((List.replicate n z.toList).flatten)[j]? = none := List.getElem?_eq_none (by omega)
    rw [hn]
    simp only [Option.map_eq_none_iff]
    exact List.getElem?_eq_none (by simpa using hge)
end
end Go.Sy

