import Derived.Test.YthdkofhgdmgdcabSxM
import Derived.Lib.Overlaps
/- Sx, part N: within a row: append in place, copy, clear; slices built; slices.overlaps. -/
set_option linter.unusedVariables false
set_option linter.unusedSimpArgs false
namespace Go.Sx
open Go

section
variable {P : Program} {T : List TI}
/-- append, where there is room within a row that is known. -/
theorem BltQ.app_in (hT : TabOk T P) {t1 t2 e : TypeId} {es eb : Nat} (hi : appInfo T t1 t2 = some (e, es, eb)) (ri : Nat) {H : Hp} {r : Row} {a : Addr} {n c j : Nat} {xs : List Value} {s : SV} {m : Nat} {vs : List Value} {k : SV → Hp → Prop}
    (hr : H.rows[ri]? = some r) (hv : r.v.ownBlock = some a.block) (ha : a = (⟨a.block, 0, none⟩ : Addr).add j)
    (hs : srcOf H es s m vs) (hm : sLen s = m) (h1 : ∀ u ∈ vs, u.oneCell' = true) (hroom : n + m ≤ c) (hsp : splice r.xs (j + n * es) vs = some xs)
    (hk : setRows H ri { r with xs := xs } fun H' => k (.v (.slice (some a) (n + m) c)) H') :
    BltQ P .append [t1, t2] [.v (.slice (some a) n c), s] H k := by
  obtain ⟨I⟩ := appInfo_eq hT hi
  refine ⟨fun β w tsA ty cn ys hts R hd => ?_⟩
  obtain ⟨y1, y2, rfl, hd1, hd2⟩ := den2 hd
  simp only [Den] at hd1
  subst hd1
  have hsrc : (y2 = .slice none 0 0 ∧ m = 0 ∧ vs = []) ∨ ∃ a c2, y2 = .slice (some a) m c2 ∧ ∀ j u, vs[j]? = some u → w.cell? (a.add j) = some u := by
    rcases srcOf_run R hs hd2 with h | ⟨a, c2, h2, h3, h4⟩
    · exact .inl h
    · exact .inr ⟨a, c2, by rw [h2, hm], h4⟩
  obtain ⟨i, z, e2, hu1, hu2, hin, hsz, hby, hz, hzl, hpos⟩ := I
  subst hsz
  have hadd : a.add (n * i.size) = (⟨a.block, 0, none⟩ : Addr).add (j + n * i.size) := by
    conv => lhs; rw [ha]
    rw [addr0, addrO, addr0]
  obtain ⟨w', h2, R', X'⟩ := R.setRowAt (P := P) hr hv hsp h1
  have hlen : (Builtin.lenOf y2).run P w = .ok m w ∧ (Builtin.firstCells i.size m y2).run P w = .ok vs.toArray w := by
    rcases hsrc with ⟨rfl, rfl, rfl⟩ | ⟨a2, c2, rfl, hc⟩
    · exact ⟨rfl, rfl⟩
    · exact ⟨rfl, run_firstCells_some (P := P) w i.size m a2 m c2 vs hs.1 hc⟩
  refine ⟨_, w', β, .v (.slice (some a) (n + m) c), _, .inl ?_, rfl, R', X', setRows_eq hk⟩
  rw [arr_of hts]
  simp only [builtin, Sem.run_bind, append_types hu1 hu2 hin]
  have : (Builtin.append_ #[t1, t1] ty #[.slice (some a) n c, y2]).run P w = .ok (.slice (some a) (n + m) c) w' := by
    simp only [Builtin.append_, List.getElem?_toArray, List.getElem?_cons_zero, List.getElem?_cons_succ, Sem.run_bind, run_underlying hu1, run_sizeOf' hin, Result.andThen_ok, Sem.run_pure]
    simp only [Bool.false_eq_true, if_false]
    rw [Sem.run_bind, hlen.1, Result.andThen_ok, if_pos hroom]
    simp only [Bool.not_false, if_true, Sem.run_bind, hlen.2, Result.andThen_ok, hadd, h2, Sem.run_pure]
  rw [this]
  rfl
/-- copy, into a row. -/
theorem BltQ.copy_in (hT : TabOk T P) {t1 t2 e : TypeId} {es eb : Nat} (hi : appInfo T t1 t2 = some (e, es, eb)) (ri : Nat) {H : Hp} {r : Row} {a : Addr} {n c j : Nat} {xs : List Value} {s : SV} {m : Nat} {vs : List Value} {k : SV → Hp → Prop}
    (hr : H.rows[ri]? = some r) (hv : r.v.ownBlock = some a.block) (ha : a = (⟨a.block, 0, none⟩ : Addr).add j)
    (hs : srcOf H es s m vs) (hm : Nat.min (sLen s) n = m) (h1 : ∀ u ∈ vs, u.oneCell' = true) (hsp : splice r.xs j vs = some xs)
    (hk : setRows H ri { r with xs := xs } fun H' => k (.v (.int .i64 m)) H') :
    BltQ P .copy [t1, t2] [.v (.slice (some a) n c), s] H k := by
  obtain ⟨I⟩ := appInfo_eq hT hi
  refine ⟨fun β w tsA ty cn ys hts R hd => ?_⟩
  obtain ⟨y1, y2, rfl, hd1, hd2⟩ := den2 hd
  simp only [Den] at hd1
  subst hd1
  obtain ⟨i, z, e2, hu1, hu2, hin, hsz, hby, hz, hzl, hpos⟩ := I
  subst hsz
  obtain ⟨w', h2, R', X'⟩ := R.setRowAt (P := P) hr hv hsp h1
  rw [← ha] at h2
  have hlen : ∃ l, (Builtin.lenOf y2).run P w = .ok l w ∧ Nat.min l n = m ∧ (Builtin.firstCells i.size m y2).run P w = .ok vs.toArray w := by
    rcases srcOf_run R hs hd2 with ⟨rfl, rfl, rfl⟩ | ⟨a2, c2, rfl, h3, hc⟩
    · exact ⟨0, rfl, Nat.zero_min n, rfl⟩
    · exact ⟨_, rfl, hm, run_firstCells_some (P := P) w i.size m a2 _ c2 vs hs.1 hc⟩
  obtain ⟨l, hl1, hl2, hl3⟩ := hlen
  refine ⟨_, w', β, .v (.int .i64 m), _, .inl ?_, rfl, R', X', setRows_eq hk⟩
  rw [arr_of hts]
  simp only [builtin, Sem.run_bind]
  have : (Builtin.copy_ #[t1, t2] ty #[.slice (some a) n c, y2]).run P w = .ok (goInt m) w' := by
    simp only [Builtin.copy_, List.getElem?_toArray, List.getElem?_cons_zero, List.getElem?_cons_succ, Sem.run_bind, run_underlying hu1, run_sizeOf' hin, Result.andThen_ok, Sem.run_pure]
    simp only [hl1, hl2, Result.andThen_ok, hl3, h2, Sem.run_pure]
  rw [this]
  rfl
/-- clear, within a row. -/
theorem BltQ.clear_in (hT : TabOk T P) {t1 e : TypeId} {es eb : Nat} (hi : appInfo T t1 t1 = some (e, es, eb)) {ie : TI} (hie : getT T e = some ie) {z : List Value} (hz : ie.zero = some z) (ri : Nat) {H : Hp} {r : Row} {a : Addr} {n c j : Nat} {xs : List Value} {k : SV → Hp → Prop}
    (hr : H.rows[ri]? = some r) (hv : r.v.ownBlock = some a.block) (ha : a = (⟨a.block, 0, none⟩ : Addr).add j) (h1 : ∀ u ∈ z, u.oneCell' = true) (hsp : splice r.xs j (repV n z) = some xs)
    (hk : setRows H ri { r with xs := xs } fun H' => k (.v (.tuple #[])) H') :
    BltQ P .clear [t1] [.v (.slice (some a) n c)] H k := by
  obtain ⟨I⟩ := appInfo_eq hT hi
  refine ⟨fun β w tsA ty cn ys hts R hd => ?_⟩
  obtain ⟨y1, zs, hd1, hd2, rfl⟩ := hd
  simp only [Den] at hd1
  simp only [DenL] at hd2
  subst hd1; subst hd2
  obtain ⟨i, z', e2, hu1, hu2, hin, hsz, hby, hzz, hzl, hpos⟩ := I
  subst hsz
  obtain ⟨te⟩ := hT.get hie
  have hzz' : z = z'.cells.toList := by
    rw [te.zero] at hz
    have : te.ti = i := by have := te.info; rw [hin] at this; exact (Option.some.inj this).symm
    rw [this, hzz] at hz
    exact (Option.some.inj hz).symm
  have h1' : ∀ v ∈ repV n z, v.oneCell' = true := by
    have : ∀ n, ∀ v ∈ repV n z, v.oneCell' = true := by
      intro n
      induction n with
      | zero => intro v hv; simp [repV] at hv
      | succ n ih =>
        intro v hv
        simp only [repV, List.mem_append] at hv
        rcases hv with hv | hv
        · exact h1 v hv
        · exact ih v hv
    exact this n
  obtain ⟨w', h2, R', X'⟩ := R.setRowAt (P := P) hr hv hsp h1'
  rw [← ha] at h2
  refine ⟨_, w', β, .v (.tuple #[]), _, .inl ?_, rfl, R', X', setRows_eq hk⟩
  rw [arr_of hts]
  simp only [builtin, Sem.run_bind]
  have hzr : (zeroValue e).run P w = .ok z' w := by simp [zeroValue, typeInfo, hin, hzz]
  have hzc : (Builtin.zeroCells z'.cells n).toList = repV n z := by
    unfold Builtin.zeroCells
    rw [repV_cells, hzz']
  have : (Builtin.clear_ #[t1] ty #[.slice (some a) n c]).run P w = .ok (.tuple #[]) w' := by
    cases n with
    | zero =>
      simp only [repV] at h2
      have : w' = w := by simpa [storeCells] using h2.symm
      subst this
      simp [Builtin.clear_, run_underlying hu1]
    | succ n =>
      simp only [Builtin.clear_, List.getElem?_toArray, List.getElem?_cons_zero, Sem.run_bind, run_underlying hu1, Result.andThen_ok]
      simp only [Sem.run_bind, hzr, Result.andThen_ok, hzc, h2, Sem.run_pure]
  rw [this]
  rfl

/-! ### Slices that are built -/
theorem BldQ.box {e es n : Nat} {cs : List SV} {H : Hp} {k : SV → Hp → Prop} (h : addBox H cs fun s H' => match s with | .loc b o => k (.sl b o n n) H' | _ => False) : BldQ e es n cs H k := by
  have h := addBox_eq h
  simp only at h
  refine ⟨fun P β w xs m R hd hl hm => ?_⟩
  obtain ⟨R', X'⟩ := R.new hd e
  refine ⟨_, _, _, .sl H.nb 0 n n, _, .inl hm, ⟨w.heap.size, ?_, rfl⟩, R', X', h⟩
  rw [R.nb, ← R.len]; simp
theorem BldQ.row {e es n : Nat} {cs : List SV} {H : Hp} {k : SV → Hp → Prop} {xs : List Value} (hx : plainL cs = some xs) (hn : n ≤ maxLen)
    (h : ∀ A, RowV A n n → A ≠ none → addRow H ⟨.slice A n n, e, es, n, xs⟩ fun H' => k (.v (.slice A n n)) H') : BldQ e es n cs H k := by
  refine ⟨fun P β w ys m R hd hl hm => ?_⟩
  have hxy := plainL_den hx hd
  subst hxy
  have hl2 := hd.length
  have ho := World.ownsRow_lit (e := e) (size := es) w ys.toArray n (Nat.zero_le _) hn (by simp; omega)
  obtain ⟨R', X'⟩ := R.rowAdd (r' := ⟨.slice (some ⟨w.heap.size, 0, none⟩) n n, e, es, n, ys⟩) (w' := w.alloc (.cells ys.toArray e)) (by simpa using ho) (World.grownBy_alloc _ _ _) (fun b hb => by simp [Value.ownBlock] at hb; omega)
  exact ⟨_, _, β, .v (.slice (some ⟨w.heap.size, 0, none⟩) n n), _, .inl hm, rfl, R', X', addRow_eq (h _ ⟨Nat.le_refl _, hn, by simp, by simp⟩ (by simp))⟩
/-- .. whose cells nobody will write. -/
theorem BldQ.dat {e es n : Nat} {cs : List SV} {nb : Nat} {B : List (List SV)} {rows : List Row} {g : Addr → Option Value} {k : SV → Hp → Prop} {xs : List Value} (hx : plainL cs = some xs) (hn : n ≤ maxLen)
    (h : ∀ A g', (∀ a v, g a = some v → g' a = some v) → A ≠ none → RowV A n n → (xs.length = n * es → Dat g' A n n es xs) → k (.v (.slice A n n)) ⟨nb, B, rows, g'⟩) : BldQ e es n cs ⟨nb, B, rows, g⟩ k := by
  refine ⟨fun P β w ys m R hd hl hm => ?_⟩
  have hxy := plainL_den hx hd
  subst hxy
  have hl2 := hd.length
  have ho := World.ownsRow_lit (e := e) (size := es) w ys.toArray n (Nat.zero_le _) hn (by simp; omega)
  obtain ⟨R', X'⟩ := R.rowAdd (r' := ⟨.slice (some ⟨w.heap.size, 0, none⟩) n n, e, es, n, ys⟩) (w' := w.alloc (.cells ys.toArray e)) (by simpa using ho) (World.grownBy_alloc _ _ _) (fun b hb => by simp [Value.ownBlock] at hb; omega)
  have W : Weak ⟨nb, B, rows ++ [⟨.slice (some ⟨w.heap.size, 0, none⟩) n n, e, es, n, ys⟩], g⟩ fun H' => ∃ g', (∀ a v, g a = some v → g' a = some v) ∧ Dat g' (some ⟨w.heap.size, 0, none⟩) n n es ys ∧ H' = ⟨nb, B, rows, g'⟩ := by
    refine Weak.pub rows.length (r := ⟨.slice (some ⟨w.heap.size, 0, none⟩) n n, e, es, n, ys⟩) (by simp) fun g' h1 h2 => ⟨g', h1, ⟨by omega, Nat.le_refl _, hn, by simp, fun a ha j u hu => ?_⟩, ?_⟩
    · injection ha with ha; subst ha; exact h2 _ rfl j u hu
    · simp [List.eraseIdx_append_of_length_le]
  obtain ⟨H2, R2, X2, g', h1, h2, rfl⟩ := W.to β _ R'
  exact ⟨_, _, β, .v (.slice (some ⟨w.heap.size, 0, none⟩) n n), _, .inl hm, rfl, R2, X'.trans X2, h _ g' h1 (by simp) ⟨Nat.le_refl _, hn, by simp, by simp⟩ (fun _ => h2)⟩
end
end Go.Sx
