import Derived.Test.YthdkofhgdmgdcabSxL
/- Sx, part M: appending, copying, clearing, building slices. -/
set_option linter.unusedVariables false
set_option linter.unusedSimpArgs false
namespace Go.Sx
open Go

/-- What a slice of the run's own looks like. -/
structure RowV (A : Option Addr) (n c : Nat) : Prop where
  le : n ≤ c
  mx : c ≤ maxLen
  nil : A = none → n = 0 ∧ c = 0
  at0 : ∀ a, A = some a → a = ⟨a.block, 0, none⟩
/-- A slice whose cells nobody writes. -/
structure Dat (g : Addr → Option Value) (A : Option Addr) (n c size : Nat) (xs : List Value) : Prop where
  len : xs.length = n * size
  le : n ≤ c
  mx : c ≤ maxLen
  nil : A = none → n = 0 ∧ c = 0
  cells : ∀ a, A = some a → ∀ j u, xs[j]? = some u → g (a.add j) = some u
theorem Dat.mono {g g' : Addr → Option Value} {A : Option Addr} {n c size : Nat} {xs : List Value} (h : Dat g A n c size xs) (hg : ∀ a v, g a = some v → g' a = some v) : Dat g' A n c size xs :=
  ⟨h.len, h.le, h.mx, h.nil, fun a ha j u hu => hg _ _ (h.cells a ha j u hu)⟩

def sLen : SV → Nat
  | .v (.slice _ n _) => n
  | .sl _ _ n _ => n
  | _ => 0
/-- The first elements of a slice. -/
def srcOf (H : Hp) (size : Nat) (s : SV) (m : Nat) (vs : List Value) : Prop :=
  vs.length = m * size ∧ match s with
  | .v (.slice A n c) => m ≤ n ∧ (A = none → n = 0 ∧ c = 0) ∧ ∀ a, A = some a → ∀ j u, vs[j]? = some u → H.at (a.add j) u
  | .sl b o n c => m ≤ n ∧ ∃ cs, H.boxes[b]? = some cs ∧ (cs.drop o).take (m * size) = vs.map .v
  | _ => False
theorem srcOf_dat {H : Hp} {A : Option Addr} {n c size : Nat} {xs : List Value} (h : Dat H.g A n c size xs) : srcOf H size (.v (.slice A n c)) n xs :=
  ⟨h.len, Nat.le_refl _, h.nil, fun a ha j u hu => .inl (h.cells a ha j u hu)⟩
theorem srcOf_box {H : Hp} {b o n c size : Nat} {cs : List SV} {vs : List Value} (hb : H.boxes[b]? = some cs) (hl : vs.length = n * size) (hv : (cs.drop o).take (n * size) = vs.map .v) : srcOf H size (.sl b o n c) n vs :=
  ⟨hl, Nat.le_refl _, cs, hb, hv⟩
theorem srcOf_row {H : Hp} {size ri n c : Nat} {A : Option Addr} {r : Row} (hr : H.rows[ri]? = some r) (hv : r.v = .slice A n c) (hn : RowV A n c) (hl : r.xs.length = n * size) : srcOf H size (.v (.slice A n c)) n r.xs := by
  refine ⟨hl, Nat.le_refl _, hn.nil, fun a ha j u hu => .inr ⟨r, List.mem_of_getElem? hr, a.block, by rw [hv, ha]; rfl, j, ?_, hu⟩⟩
  have := hn.at0 a ha
  conv => lhs; rw [this]

def appInfo (T : List TI) (t1 t2 : TypeId) : Option (TypeId × Nat × Nat) :=
  match getT T t1 with
  | some i1 => match getT T t2 with
    | some i2 => match i1.d with
      | .slice e es eb _ => match i2.d with
        | .slice _ _ _ _ => match getT T e with
          | some ie => match ie.zero with
            | some z => match Nat.beq z.length es with
              | true => match Nat.ble 1 es with
                | true => some (e, es, eb)
                | false => none
              | false => none
            | none => none
          | none => none
        | _ => none
      | _ => none
    | none => none
  | none => none
structure AppInfo (P : Program) (t1 t2 : TypeId) (e : TypeId) (es eb : Nat) where
  ti : TypeInfo
  z : Value
  e2 : TypeId
  u1 : P.underlying t1 = some (.slice e)
  u2 : P.underlying t2 = some (.slice e2)
  info : P.info? e = some ti
  size : ti.size = es
  bytes : ti.bytes = eb
  zero : ti.zero = some z
  zl : z.cells.size = es
  pos : 0 < es
section
variable {P : Program} {T : List TI}
theorem desc_slice {t : TypeId} {i : TI} (ti : TInfo P t i) {e es eb : Nat} {ea : Bool} (hid : i.d = .slice e es eb ea) : ∃ ie : TypeInfo, ti.desc = .slice e ∧ P.info? e = some ie ∧ ie.size = es ∧ ie.bytes = eb := by
  have htd := ti.d
  rw [hid] at htd
  unfold tdOf at htd
  split at htd <;> try (first | (simp at htd; done) | (split at htd <;> simp at htd; done))
  rename_i e' hdesc
  split at htd
  · rename_i p ii hp hii
    obtain ⟨sz, b⟩ := p
    obtain ⟨ie', de, h1, h2, h3, h4⟩ := partOf_eq hp
    simp at htd
    obtain ⟨rfl, rfl, rfl, rfl⟩ := htd
    exact ⟨ii, hdesc, hii, by rw [hii] at h1; rw [Option.some.inj h1]; exact h3, rfl⟩
  · cases htd
theorem appInfo_eq (hT : TabOk T P) {t1 t2 e : TypeId} {es eb : Nat} (h : appInfo T t1 t2 = some (e, es, eb)) : Nonempty (AppInfo P t1 t2 e es eb) := by
  unfold appInfo at h
  split at h
  case h_2 => cases h
  rename_i i1 h1
  split at h
  case h_2 => cases h
  rename_i i2 h2
  split at h
  case h_2 => cases h
  rename_i e1 es1 eb1 ea1 hd1
  split at h
  case h_2 => cases h
  rename_i e2 es2 eb2 ea2 hd2
  split at h
  case h_2 => cases h
  rename_i ie he
  split at h
  case h_2 => cases h
  rename_i z hz
  split at h
  case h_2 => cases h
  rename_i hzl
  split at h
  case h_2 => cases h
  rename_i hp
  simp only [Option.some.injEq, Prod.mk.injEq] at h
  obtain ⟨rfl, rfl, rfl⟩ := h
  obtain ⟨t1i⟩ := hT.get h1
  obtain ⟨t2i⟩ := hT.get h2
  obtain ⟨tei⟩ := hT.get he
  obtain ⟨ie1, a1, a2, a3, a4⟩ := desc_slice t1i hd1
  obtain ⟨ie2, b1, b2, b3, b4⟩ := desc_slice t2i hd2
  rw [tei.zero] at hz
  obtain ⟨z', hz', rfl⟩ := Option.map_eq_some_iff.1 hz
  have hie : tei.ti = ie1 := by have := tei.info; rw [a2] at this; exact (Option.some.inj this).symm
  exact ⟨⟨ie1, z', e2, by rw [t1i.und, a1], by rw [t2i.und, b1], a2, a3, a4, by rw [← hie]; exact hz', by simpa using Nat.eq_of_beq_eq_true hzl, Nat.le_of_ble_eq_true hp⟩⟩

theorem append_types {t1 t2 e e2 : TypeId} (h1 : P.underlying t1 = some (.slice e)) (h2 : P.underlying t2 = some (.slice e2)) {ti : TypeInfo} (hi : P.info? e = some ti) (ty : TypeId) (A : Option Addr) (n c : Nat) (y : Value) (w : World) :
    (Builtin.append_ #[t1, t2] ty #[.slice A n c, y]).run P w = (Builtin.append_ #[t1, t1] ty #[.slice A n c, y]).run P w := by
  simp only [Builtin.append_, List.getElem?_toArray, List.getElem?_cons_zero, List.getElem?_cons_succ, Sem.run_bind, run_underlying h1, run_underlying h2, run_sizeOf' hi, Result.andThen_ok, Sem.run_pure]

theorem srcOf_run {β : List Nat} {H : Hp} {w : World} (R : Rep β H w) {size m : Nat} {s : SV} {vs : List Value} {x : Value} (h : srcOf H size s m vs) (hd : Den β s x) :
    (x = .slice none 0 0 ∧ m = 0 ∧ vs = []) ∨ ∃ a c, x = .slice (some a) (sLen s) c ∧ m ≤ sLen s ∧ ∀ j u, vs[j]? = some u → w.cell? (a.add j) = some u := by
  obtain ⟨hl, h⟩ := h
  split at h
  · rename_i A n c
    simp only [Den] at hd
    subst hd
    obtain ⟨h1, h2, h3⟩ := h
    cases A with
    | none =>
      obtain ⟨rfl, rfl⟩ := h2 rfl
      have : m = 0 := by omega
      subst this
      exact .inl ⟨rfl, rfl, List.eq_nil_of_length_eq_zero (by simpa using hl)⟩
    | some a => exact .inr ⟨a, c, rfl, h1, fun j u hu => R.at (h3 a rfl j u hu)⟩
  · rename_i b o n c
    obtain ⟨h1, cs, h2, h3⟩ := h
    obtain ⟨bb, hb, rfl⟩ := hd
    obtain ⟨xs, ty, hdl, hh⟩ := R.box b cs bb h2 hb
    refine .inr ⟨_, c, rfl, h1, fun j u hu => ?_⟩
    rw [addrO, cell_of_row w bb (o + j) xs.toArray ty _ hh]
    have h4 : ((cs.drop o).take (m * size))[j]? = some (.v u) := by rw [h3]; simp [hu]
    rw [List.getElem?_take] at h4
    split at h4
    · rw [List.getElem?_drop] at h4
      obtain ⟨y, hy, hdy⟩ := hdl.get h4
      simp only [Den] at hdy
      subst hdy
      simpa using hy
    · cases h4
  · exact h.elim

theorem run_app {t1 t2 e : TypeId} {es eb : Nat} (I : AppInfo P t1 t2 e es eb) {w : World} {A : Option Addr} {n c : Nat} {xs : List Value} (hown : w.ownsRow 0 e es (.slice A n c) n xs) {x : Value} {m : Nat} {vs : List Value}
    (hl : vs.length = m * es) (hx : (x = .slice none 0 0 ∧ m = 0 ∧ vs = []) ∨ ∃ a c2, x = .slice (some a) m c2 ∧ ∀ j u, vs[j]? = some u → w.cell? (a.add j) = some u) (h1 : ∀ u ∈ vs, u.oneCell' = true)
    (h63 : n + m ≤ maxLen) (hbytes : (n + m) * eb ≤ 140737488355328) (ty : TypeId) :
    ∃ A' c' w', (Builtin.append_ #[t1, t2] ty #[.slice A n c, x]).run P w = .ok (.slice A' (n + m) c') w' ∧ w'.ownsRow 0 e es (.slice A' (n + m) c') (n + m) (xs ++ vs) ∧ w.grownBy w' (A.map (·.block)) ∧
      RowV A' (n + m) c' ∧ (n + m ≤ c → A' = A ∧ c' = c) ∧ ∀ b, A'.map (·.block) = some b → A.map (·.block) = some b ∨ w.heap.size ≤ b := by
  obtain ⟨i, z, e2, hu1, hu2, hi, hsz, hby, hz, hzl, hpos⟩ := I
  subst hsz
  subst hby
  have hsmall : n + m ≤ 9223372036854775807 := by simp only [maxLen] at h63; omega
  have hlen : (xs ++ vs).length = (n + m) * i.size := by rw [List.length_append, hown.1, hl, Nat.add_mul]
  rw [append_types hu1 hu2 hi]
  have grown : ∀ (old : Nat), old < n + m → ∀ (row : Option Nat),
      (w.drew.alloc (.cells (xs.toArray ++ vs.toArray ++ Builtin.zeroCells z.cells (grownCap w (n + m) old e - (n + m))) e)).ownsRow 0 e i.size
        (.slice (some ⟨w.heap.size, 0, none⟩) (n + m) (grownCap w (n + m) old e)) (n + m) (xs ++ vs) ∧
      w.grownBy (w.drew.alloc (.cells (xs.toArray ++ vs.toArray ++ Builtin.zeroCells z.cells (grownCap w (n + m) old e - (n + m))) e)) row ∧
      RowV (some ⟨w.heap.size, 0, none⟩) (n + m) (grownCap w (n + m) old e) := by
    intro old ho row
    have hge := grownCap_ge w (n + m) old e
    have hcm : grownCap w (n + m) old e ≤ maxLen := grownCap_le_maxLen w (n + m) old e h63
    refine ⟨⟨hlen, .inr ⟨w.heap.size, _, _, rfl, Nat.zero_le _, heap_alloc_new w.drew _, hge, hcm, ?_, ?_⟩⟩, ⟨rfl, rfl, rfl, by simp, fun k hk _ => Go.RowKit.Below.heap_alloc w.drew _ k hk⟩, ⟨hge, hcm, by simp, by simp⟩⟩
    · simp only [Array.size_append, List.size_toArray, size_zeroCells, hzl, hown.1, hl, ← Nat.add_mul]
      congr 1
      omega
    · simp only [Array.toList_append, List.append_assoc]
      rw [← List.append_assoc, ← hlen]
      exact List.take_left
  rcases hx with ⟨rfl, rfl, rfl⟩ | ⟨a, c2, rfl, hc⟩
  · have hr := run_append_owned_none (P := P) w 0 t1 ty e i i.size hu1 hi (.slice A n c) n xs hown
    refine ⟨A, c, w, hr, by simpa using hown, ⟨rfl, rfl, rfl, Nat.le_refl _, fun _ _ _ => rfl⟩, ?_, fun _ => ⟨rfl, rfl⟩, fun b hb => .inl hb⟩
    rcases hown.2 with ⟨hv, rfl⟩ | ⟨g, cap, cur, hv, _, _, hnc, hcm, _⟩
    · simp at hv; obtain ⟨rfl, rfl⟩ := hv; exact ⟨Nat.le_refl _, Nat.zero_le _, fun _ => ⟨rfl, rfl⟩, by simp⟩
    · simp at hv; obtain ⟨rfl, rfl⟩ := hv; exact ⟨hnc, hcm, by simp, by simp⟩
  · rcases hown.2 with ⟨hv, rfl⟩ | ⟨g, cap, cur, hv, _, hg, hnc, hcm, hcs, htake⟩
    · simp at hv
      obtain ⟨rfl, rfl⟩ := hv
      have hxs : xs = [] := List.eq_nil_of_length_eq_zero (by simpa using hown.1)
      subst hxs
      by_cases hm : m = 0
      · subst hm
        have hn : vs = [] := List.eq_nil_of_length_eq_zero (by simpa using hl)
        subst hn
        refine ⟨none, 0, w, ?_, by simpa using World.ownsRow_nil w 0 e i.size, ⟨rfl, rfl, rfl, Nat.le_refl _, fun _ _ _ => rfl⟩, ⟨Nat.le_refl _, Nat.zero_le _, fun _ => ⟨rfl, rfl⟩, by simp⟩, fun _ => ⟨rfl, rfl⟩, by simp⟩
        simp [Builtin.append_, run_underlying hu1, sizeOf, typeInfo, hi, Builtin.lenOf, Builtin.firstCells, loadCells, loadCellsFrom]
      · have hr := run_append_nil (P := P) w t1 ty e i z hu1 hi hz a m c2 vs hl hc (by omega) (by omega) (by have hb := hbytes; simp only [Nat.zero_add] at hb; omega)
        have hgr := grown 0 (by omega) none
        simp only [Nat.zero_add, List.nil_append, Array.empty_append] at hgr ⊢
        exact ⟨_, _, _, hr, hgr.1, hgr.2.1, hgr.2.2, fun h => absurd h (by omega), fun b hb => .inr (by simp at hb; omega)⟩
    · simp at hv
      obtain ⟨rfl, rfl⟩ := hv
      by_cases hroom : n + m ≤ c
      · obtain ⟨w', hr, ho', hg'⟩ := run_append_fits (P := P) w 0 t1 ty e i i.size hu1 hi rfl g n c xs hown a m c2 vs hl hc h1 hroom
        exact ⟨_, _, w', hr, ho', hg', ⟨hroom, hcm, by simp, by simp⟩, fun _ => ⟨rfl, rfl⟩, fun b hb => .inl hb⟩
      · have holds : ∀ j u, xs[j]? = some u → w.cell? ((⟨g, 0, none⟩ : Addr).add j) = some u := hown.cells (g := g) rfl
        have hr := run_append_grow (P := P) w t1 ty e i z hu1 hi hz ⟨g, 0, none⟩ n c xs hown.1 holds a m c2 vs hl hc (by omega) (by omega) (growslice_fits (by omega) hbytes)
        have hgr := grown c (by omega) (some g)
        exact ⟨_, _, _, hr, hgr.1, hgr.2.1, hgr.2.2, fun h => absurd h hroom, fun b hb => .inr (by simp at hb; omega)⟩

theorem den2 {β : List Nat} {s1 s2 : SV} {ys : List Value} (h : DenL β [s1, s2] ys) : ∃ y1 y2, ys = [y1, y2] ∧ Den β s1 y1 ∧ Den β s2 y2 := by
  obtain ⟨y1, zs, h1, ⟨y2, zs2, h2, h3, rfl⟩, rfl⟩ := h
  simp only [DenL] at h3
  subst h3
  exact ⟨y1, y2, rfl, h1, h2⟩
theorem arr_of {α : Type} {A : Array α} {l : List α} (h : A.toList = l) : A = l.toArray := by rw [← h]

def addRow (H : Hp) (r : Row) (k : Hp → Prop) : Prop :=
  match H with
  | ⟨nb, B, rs, g⟩ => lf (rs ++ [r]) fun rs => k ⟨nb, B, rs, g⟩
theorem addRow_eq {H : Hp} {r : Row} {k : Hp → Prop} (h : addRow H r k) : k { H with rows := H.rows ++ [r] } := by
  cases H; simp only [addRow, lf_eq] at h; exact h

/-- append, to a row of the run's own. -/
theorem BltQ.app_own (hT : TabOk T P) {t1 t2 e : TypeId} {es eb : Nat} (hi : appInfo T t1 t2 = some (e, es, eb)) (ri : Nat) {H : Hp} {A : Option Addr} {n c : Nat} {xs : List Value} {s : SV} {m : Nat} {vs : List Value} {k : SV → Hp → Prop}
    (hr : H.rows[ri]? = some ⟨.slice A n c, e, es, n, xs⟩) (hs : srcOf H es s m vs) (hm : sLen s = m) (h1 : ∀ u ∈ vs, u.oneCell' = true) (h63 : n + m ≤ maxLen) (hb : (n + m) * eb ≤ 140737488355328)
    (hk : ∀ A' c', RowV A' (n + m) c' → (n + m ≤ c → A' = A ∧ c' = c) → setRows H ri ⟨.slice A' (n + m) c', e, es, n + m, xs ++ vs⟩ fun H' => k (.v (.slice A' (n + m) c')) H') :
    BltQ P .append [t1, t2] [.v (.slice A n c), s] H k := by
  obtain ⟨I⟩ := appInfo_eq hT hi
  refine ⟨fun β w tsA ty cn ys hts R hd => ?_⟩
  obtain ⟨y1, y2, rfl, hd1, hd2⟩ := den2 hd
  simp only [Den] at hd1
  subst hd1
  have hsrc : (y2 = .slice none 0 0 ∧ m = 0 ∧ vs = []) ∨ ∃ a c2, y2 = .slice (some a) m c2 ∧ ∀ j u, vs[j]? = some u → w.cell? (a.add j) = some u := by
    rcases srcOf_run R hs hd2 with h | ⟨a, c2, h2, h3, h4⟩
    · exact .inl h
    · exact .inr ⟨a, c2, by rw [h2, hm], h4⟩
  obtain ⟨A', c', w', hrun, ho, hg, hv, hin, hbl⟩ := run_app I (R.row _ (List.mem_of_getElem? hr)) hs.1 hsrc h1 h63 hb ty
  have hob : ∀ (B : Option Addr) (n c : Nat), (Value.slice B n c).ownBlock = B.map (·.block) := by intro B n c; cases B <;> rfl
  obtain ⟨R', X'⟩ := R.rowSet (r' := ⟨.slice A' (n + m) c', e, es, n + m, xs ++ vs⟩) hr ho (by simpa only [hob] using hg) (by simpa only [hob] using hbl)
  refine ⟨_, w', β, .v (.slice A' (n + m) c'), _, .inl ?_, rfl, R', X', setRows_eq (hk A' c' hv hin)⟩
  rw [arr_of hts]
  simp only [builtin, Sem.run_bind, hrun]
  rfl
/-- append, to nil. -/
theorem BltQ.app_new (hT : TabOk T P) {t1 t2 e : TypeId} {es eb : Nat} (hi : appInfo T t1 t2 = some (e, es, eb)) {H : Hp} {s : SV} {m : Nat} {vs : List Value} {k : SV → Hp → Prop}
    (hs : srcOf H es s m vs) (hm : sLen s = m) (h1 : ∀ u ∈ vs, u.oneCell' = true) (h63 : m ≤ maxLen) (hb : m * eb ≤ 140737488355328)
    (hk : ∀ A' c', RowV A' m c' → addRow H ⟨.slice A' m c', e, es, m, vs⟩ fun H' => k (.v (.slice A' m c')) H') :
    BltQ P .append [t1, t2] [.v (.slice none 0 0), s] H k := by
  obtain ⟨I⟩ := appInfo_eq hT hi
  refine ⟨fun β w tsA ty cn ys hts R hd => ?_⟩
  obtain ⟨y1, y2, rfl, hd1, hd2⟩ := den2 hd
  simp only [Den] at hd1
  subst hd1
  have hsrc : (y2 = .slice none 0 0 ∧ m = 0 ∧ vs = []) ∨ ∃ a c2, y2 = .slice (some a) m c2 ∧ ∀ j u, vs[j]? = some u → w.cell? (a.add j) = some u := by
    rcases srcOf_run R hs hd2 with h | ⟨a, c2, h2, h3, h4⟩
    · exact .inl h
    · exact .inr ⟨a, c2, by rw [h2, hm], h4⟩
  obtain ⟨A', c', w', hrun, ho, hg, hv, hin, hbl⟩ := run_app I (World.ownsRow_nil w 0 e es) hs.1 hsrc h1 (by omega) (by simpa using hb) ty
  have hob : ∀ (B : Option Addr) (n c : Nat), (Value.slice B n c).ownBlock = B.map (·.block) := by intro B n c; cases B <;> rfl
  simp only [Nat.zero_add, List.nil_append] at hrun ho hv
  obtain ⟨R', X'⟩ := R.rowAdd (r' := ⟨.slice A' m c', e, es, m, vs⟩) ho (by simpa using hg) (fun b hb' => by rcases hbl b (by simpa only [hob] using hb') with h | h; simp at h; exact h)
  refine ⟨_, w', β, .v (.slice A' m c'), _, .inl ?_, rfl, R', X', addRow_eq (hk A' c' hv)⟩
  rw [arr_of hts]
  simp only [builtin, Sem.run_bind, hrun]
  rfl
end
end Go.Sx
