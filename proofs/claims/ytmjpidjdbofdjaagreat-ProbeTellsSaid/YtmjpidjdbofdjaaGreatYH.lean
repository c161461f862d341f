import Derived.Test.YtmjpidjdbofdjaaGreatYF
import Derived.Lib.AppendStr
/- Sy, parts G, H: builtins. -/
set_option linter.unusedVariables false
set_option linter.unusedSimpArgs false
/- Sy, part G: builtins that work on slices. -/
namespace Go.Sy
open Go

/-- What a slice of the run's own looks like. -/
structure RowV (A : Option Addr) (n c : Nat) : Prop where
  le : n ≤ c
  mx : c ≤ maxLen
  nil : A = none → n = 0 ∧ c = 0
  at0 : ∀ a, A = some a → a = ⟨a.block, 0, none⟩
def appInfo (T : List TI) (t1 t2 : TypeId) : Option (TypeId × Nat × Nat) :=
  match getT T t1 with
  | some i1 => match getT T t2 with
    | some i2 => match i1.d with
      | .slice e es eb _ => match i2.d with
        | .slice _ _ _ _ => match getT T e with
          | some ie => match ie.zero with
            | some z => match Nat.beq z.length es with
              | true => match Nat.ble 1 es with
                | true => some (e, es, eb)
                | false => none
              | false => none
            | none => none
          | none => none
        | _ => none
      | _ => none
    | none => none
  | none => none
structure AppInfo (P : Program) (t1 t2 : TypeId) (e : TypeId) (es eb : Nat) where
  ti : TypeInfo
  z : Value
  e2 : TypeId
  u1 : P.underlying t1 = some (.slice e)
  u2 : P.underlying t2 = some (.slice e2)
  info : P.info? e = some ti
  size : ti.size = es
  bytes : ti.bytes = eb
  zero : ti.zero = some z
  zl : z.cells.size = es
  pos : 0 < es
section
variable {P : Program} {T : List TI}
theorem desc_slice {t : TypeId} {i : TI} (ti : TInfo P t i) {e es eb : Nat} {ea : Bool} (hid : i.d = .slice e es eb ea) : ∃ ie : TypeInfo, ti.desc = .slice e ∧ P.info? e = some ie ∧ ie.size = es ∧ ie.bytes = eb := by
  have htd := ti.d
  rw [hid] at htd
  unfold tdOf at htd
  split at htd <;> try (first | (simp at htd; done) | (split at htd <;> simp at htd; done))
  rename_i e' hdesc
  split at htd
  · rename_i p ii hp hii
    obtain ⟨sz, b⟩ := p
    obtain ⟨ie', de, h1, h2, h3, h4⟩ := partOf_eq hp
    simp at htd
    obtain ⟨rfl, rfl, rfl, rfl⟩ := htd
    exact ⟨ii, hdesc, hii, by rw [hii] at h1; rw [Option.some.inj h1]; exact h3, rfl⟩
  · cases htd
theorem appInfo_eq (hT : TabOk T P) {t1 t2 e : TypeId} {es eb : Nat} (h : appInfo T t1 t2 = some (e, es, eb)) : Nonempty (AppInfo P t1 t2 e es eb) := by
  unfold appInfo at h
  split at h
  case h_2 => cases h
  rename_i i1 h1
  split at h
  case h_2 => cases h
  rename_i i2 h2
  split at h
  case h_2 => cases h
  rename_i e1 es1 eb1 ea1 hd1
  split at h
  case h_2 => cases h
  rename_i e2 es2 eb2 ea2 hd2
  split at h
  case h_2 => cases h
  rename_i ie he
  split at h
  case h_2 => cases h
  rename_i z hz
  split at h
  case h_2 => cases h
  rename_i hzl
  split at h
  case h_2 => cases h
  rename_i hp
  simp only [Option.some.injEq, Prod.mk.injEq] at h
  obtain ⟨rfl, rfl, rfl⟩ := h
  obtain ⟨t1i⟩ := hT.get h1
  obtain ⟨t2i⟩ := hT.get h2
  obtain ⟨tei⟩ := hT.get he
  obtain ⟨ie1, a1, a2, a3, a4⟩ := desc_slice t1i hd1
  obtain ⟨ie2, b1, b2, b3, b4⟩ := desc_slice t2i hd2
  rw [tei.zero] at hz
  obtain ⟨z', hz', rfl⟩ := Option.map_eq_some_iff.1 hz
  have hie : tei.ti = ie1 := by have := tei.info; rw [a2] at this; exact (Option.some.inj this).symm
  exact ⟨⟨ie1, z', e2, by rw [t1i.und, a1], by rw [t2i.und, b1], a2, a3, a4, by rw [← hie]; exact hz', by simpa using Nat.eq_of_beq_eq_true hzl, Nat.le_of_ble_eq_true hp⟩⟩

theorem append_types {t1 t2 e e2 : TypeId} (h1 : P.underlying t1 = some (.slice e)) (h2 : P.underlying t2 = some (.slice e2)) {ti : TypeInfo} (hi : P.info? e = some ti) (ty : TypeId) (A : Option Addr) (n c : Nat) (y : Value) (w : World) :
    (Builtin.append_ #[t1, t2] ty #[.slice A n c, y]).run P w = (Builtin.append_ #[t1, t1] ty #[.slice A n c, y]).run P w := by
  simp only [Builtin.append_, List.getElem?_toArray, List.getElem?_cons_zero, List.getElem?_cons_succ, Sem.run_bind, run_underlying h1, run_underlying h2, run_sizeOf' hi, Result.andThen_ok, Sem.run_pure]


theorem run_app {t1 t2 e : TypeId} {es eb : Nat} (I : AppInfo P t1 t2 e es eb) {w : World} {A : Option Addr} {n c : Nat} {xs : List Value} (hown : w.ownsRow 0 e es (.slice A n c) n xs) {x : Value} {m : Nat} {vs : List Value}
    (hl : vs.length = m * es) (hx : (x = .slice none 0 0 ∧ m = 0 ∧ vs = []) ∨ ∃ a c2, x = .slice (some a) m c2 ∧ ∀ j u, vs[j]? = some u → w.cell? (a.add j) = some u) (h1 : ∀ u ∈ vs, u.oneCell' = true)
    (h63 : n + m ≤ maxLen) (hbytes : (n + m) * eb ≤ 140737488355328) (ty : TypeId) :
    ∃ A' c' w', (Builtin.append_ #[t1, t2] ty #[.slice A n c, x]).run P w = .ok (.slice A' (n + m) c') w' ∧ w'.ownsRow 0 e es (.slice A' (n + m) c') (n + m) (xs ++ vs) ∧ w.grownBy w' (A.map (·.block)) ∧
      RowV A' (n + m) c' ∧ (n + m ≤ c → A' = A ∧ c' = c) ∧ ∀ b, A'.map (·.block) = some b → A.map (·.block) = some b ∨ w.heap.size ≤ b := by
  obtain ⟨i, z, e2, hu1, hu2, hi, hsz, hby, hz, hzl, hpos⟩ := I
  subst hsz
  subst hby
  have hsmall : n + m ≤ 9223372036854775807 := by simp only [maxLen] at h63; omega
  have hlen : (xs ++ vs).length = (n + m) * i.size := by rw [List.length_append, hown.1, hl, Nat.add_mul]
  rw [append_types hu1 hu2 hi]
  have grown : ∀ (old : Nat), old < n + m → ∀ (row : Option Nat),
      (w.drew.alloc (.cells (xs.toArray ++ vs.toArray ++ Builtin.zeroCells z.cells (grownCap w (n + m) old e - (n + m))) e)).ownsRow 0 e i.size
        (.slice (some ⟨w.heap.size, 0, none⟩) (n + m) (grownCap w (n + m) old e)) (n + m) (xs ++ vs) ∧
      w.grownBy (w.drew.alloc (.cells (xs.toArray ++ vs.toArray ++ Builtin.zeroCells z.cells (grownCap w (n + m) old e - (n + m))) e)) row ∧
      RowV (some ⟨w.heap.size, 0, none⟩) (n + m) (grownCap w (n + m) old e) := by
    intro old ho row
    have hge := grownCap_ge w (n + m) old e
    have hcm : grownCap w (n + m) old e ≤ maxLen := grownCap_le_maxLen w (n + m) old e h63
    refine ⟨⟨hlen, .inr ⟨w.heap.size, _, _, rfl, Nat.zero_le _, heap_alloc_new w.drew _, hge, hcm, ?_, ?_⟩⟩, ⟨rfl, rfl, rfl, by simp, fun k hk _ => Go.RowKit.Below.heap_alloc w.drew _ k hk⟩, ⟨hge, hcm, by simp, by simp⟩⟩
    · simp only [Array.size_append, List.size_toArray, size_zeroCells, hzl, hown.1, hl, ← Nat.add_mul]
      congr 1
      omega
    · simp only [Array.toList_append, List.append_assoc]
      rw [← List.append_assoc, ← hlen]
      exact List.take_left
  rcases hx with ⟨rfl, rfl, rfl⟩ | ⟨a, c2, rfl, hc⟩
  · have hr := run_append_owned_none (P := P) w 0 t1 ty e i i.size hu1 hi (.slice A n c) n xs hown
    refine ⟨A, c, w, hr, by simpa using hown, ⟨rfl, rfl, rfl, Nat.le_refl _, fun _ _ _ => rfl⟩, ?_, fun _ => ⟨rfl, rfl⟩, fun b hb => .inl hb⟩
    rcases hown.2 with ⟨hv, rfl⟩ | ⟨g, cap, cur, hv, _, _, hnc, hcm, _⟩
    · simp at hv; obtain ⟨rfl, rfl⟩ := hv; exact ⟨Nat.le_refl _, Nat.zero_le _, fun _ => ⟨rfl, rfl⟩, by simp⟩
    · simp at hv; obtain ⟨rfl, rfl⟩ := hv; exact ⟨hnc, hcm, by simp, by simp⟩
  · rcases hown.2 with ⟨hv, rfl⟩ | ⟨g, cap, cur, hv, _, hg, hnc, hcm, hcs, htake⟩
    · simp at hv
      obtain ⟨rfl, rfl⟩ := hv
      have hxs : xs = [] := List.eq_nil_of_length_eq_zero (by simpa using hown.1)
      subst hxs
      by_cases hm : m = 0
      · subst hm
        have hn : vs = [] := List.eq_nil_of_length_eq_zero (by simpa using hl)
        subst hn
        refine ⟨none, 0, w, ?_, by simpa using World.ownsRow_nil w 0 e i.size, ⟨rfl, rfl, rfl, Nat.le_refl _, fun _ _ _ => rfl⟩, ⟨Nat.le_refl _, Nat.zero_le _, fun _ => ⟨rfl, rfl⟩, by simp⟩, fun _ => ⟨rfl, rfl⟩, by simp⟩
        simp [Builtin.append_, run_underlying hu1, sizeOf, typeInfo, hi, Builtin.lenOf, Builtin.firstCells, loadCells, loadCellsFrom]
      · have hr := run_append_nil (P := P) w t1 ty e i z hu1 hi hz a m c2 vs hl hc (by omega) (by omega) (by have hb := hbytes; simp only [Nat.zero_add] at hb; omega)
        have hgr := grown 0 (by omega) none
        simp only [Nat.zero_add, List.nil_append, Array.empty_append] at hgr ⊢
        exact ⟨_, _, _, hr, hgr.1, hgr.2.1, hgr.2.2, fun h => absurd h (by omega), fun b hb => .inr (by simp at hb; omega)⟩
    · simp at hv
      obtain ⟨rfl, rfl⟩ := hv
      by_cases hroom : n + m ≤ c
      · obtain ⟨w', hr, ho', hg'⟩ := run_append_fits (P := P) w 0 t1 ty e i i.size hu1 hi rfl g n c xs hown a m c2 vs hl hc h1 hroom
        exact ⟨_, _, w', hr, ho', hg', ⟨hroom, hcm, by simp, by simp⟩, fun _ => ⟨rfl, rfl⟩, fun b hb => .inl hb⟩
      · have holds : ∀ j u, xs[j]? = some u → w.cell? ((⟨g, 0, none⟩ : Addr).add j) = some u := hown.cells (g := g) rfl
        have hr := run_append_grow (P := P) w t1 ty e i z hu1 hi hz ⟨g, 0, none⟩ n c xs hown.1 holds a m c2 vs hl hc (by omega) (by omega) (growslice_fits (by omega) hbytes)
        have hgr := grown c (by omega) (some g)
        exact ⟨_, _, _, hr, hgr.1, hgr.2.1, hgr.2.2, fun h => absurd h hroom, fun b hb => .inr (by simp at hb; omega)⟩

end
/-- A string is appended to bytes. -/
def strInfo (T : List TI) (t1 t2 : TypeId) : Option TypeId :=
  match getT T t1 with
  | some i1 => match getT T t2 with
    | some i2 => match i1.d, i2.d with
      | .slice e 1 1 _, .string => match getT T e with
        | some ie => match ie.zero, ie.zag with
          | some [.int .u8 0], false => some e
          | _, _ => none
        | none => none
      | _, _ => none
    | none => none
  | none => none
structure StrInfo (P : Program) (t1 t2 : TypeId) (e : TypeId) where
  ti : TypeInfo
  u1 : P.underlying t1 = some (.slice e)
  u2 : P.underlying t2 = some .string
  info : P.info? e = some ti
  size : ti.size = 1
  bytes : ti.bytes = 1
  zero : ti.zero = some (.int .u8 0)
section
variable {P : Program} {T : List TI}
theorem strInfo_eq (hT : TabOk T P) {t1 t2 e : TypeId} (h : strInfo T t1 t2 = some e) : Nonempty (StrInfo P t1 t2 e) := by
  unfold strInfo at h
  split at h
  case h_2 => cases h
  rename_i i1 h1
  split at h
  case h_2 => cases h
  rename_i i2 h2
  split at h
  case h_2 => cases h
  rename_i e' ea hd1 hd2
  split at h
  case h_2 => cases h
  rename_i ie he
  split at h
  case h_2 => cases h
  rename_i hz hzag
  injection h with h
  subst h
  obtain ⟨T1⟩ := hT.get h1
  obtain ⟨T2⟩ := hT.get h2
  obtain ⟨Te⟩ := hT.get he
  obtain ⟨ii, hu, hi, hs, hb⟩ := desc_slice T1 hd1
  have htd := T2.d
  rw [hd2] at htd
  have hdesc : T2.desc = .string := by
    unfold tdOf at htd
    split at htd <;> try (first | (simp at htd; done) | (split at htd <;> simp at htd; done))
    rename_i hdesc
    exact hdesc
  refine ⟨⟨ii, by rw [T1.und, hu], by rw [T2.und, hdesc], hi, hs, hb, ?_⟩⟩
  have hie : Te.ti = ii := by have := Te.info; rw [hi] at this; exact (Option.some.inj this).symm
  have hz' := Te.zero
  have hzg' := Te.zag
  rw [hz, hie] at hz'
  rw [hzag, hie] at hzg'
  cases hzz : ii.zero with
  | none => rw [hzz] at hz'; simp at hz'
  | some z =>
    rw [hzz] at hz' hzg'
    simp only [Option.map_some, Option.some.injEq] at hz'
    cases z <;> simp [Value.cells] at hz' hzg' ⊢
    exact ⟨hz'.1.symm, hz'.2.symm⟩
theorem run_appStr {t1 t2 e : TypeId} (I : StrInfo P t1 t2 e) {w : World} {A : Option Addr} {n c : Nat} {xs : List Value} (hown : w.ownsRow 0 e 1 (.slice A n c) n xs) (s : ByteArray)
    (h63 : n + s.size ≤ maxLen) (hbytes : n + s.size ≤ 140737488355328) (ty : TypeId) :
    ∃ A' c' w', (Builtin.append_ #[t1, t2] ty #[.slice A n c, .string s]).run P w = .ok (.slice A' (n + s.size) c') w' ∧ w'.ownsRow 0 e 1 (.slice A' (n + s.size) c') (n + s.size) (xs ++ bytesV s) ∧ w.grownBy w' (A.map (·.block)) ∧
      RowV A' (n + s.size) c' ∧ ∀ b, A'.map (·.block) = some b → A.map (·.block) = some b ∨ w.heap.size ≤ b := by
  obtain ⟨i, ht, hu, hi, hsize, hby, hz⟩ := I
  have hsc : bytesV s = Lib.strCells s := rfl
  rw [hsc]
  have hsmall : n + s.size ≤ 9223372036854775807 := by simp only [maxLen] at h63; omega
  have hxl : xs.length = n := by simpa using hown.1
  have hlen : (xs ++ Lib.strCells s).length = (n + s.size) * 1 := by rw [List.length_append, hxl, Lib.strCells_length, Nat.mul_one]
  have grown : ∀ (old : Nat), old < n + s.size → ∀ (row : Option Nat),
      (w.drew.alloc (.cells (xs.toArray ++ (Lib.strCells s).toArray ++ Builtin.zeroCells (Value.int .u8 0).cells (grownCap w (n + s.size) old e - (n + s.size))) e)).ownsRow 0 e 1
        (.slice (some ⟨w.heap.size, 0, none⟩) (n + s.size) (grownCap w (n + s.size) old e)) (n + s.size) (xs ++ Lib.strCells s) ∧
      w.grownBy (w.drew.alloc (.cells (xs.toArray ++ (Lib.strCells s).toArray ++ Builtin.zeroCells (Value.int .u8 0).cells (grownCap w (n + s.size) old e - (n + s.size))) e)) row ∧
      RowV (some ⟨w.heap.size, 0, none⟩) (n + s.size) (grownCap w (n + s.size) old e) := by
    intro old ho row
    have hge := grownCap_ge w (n + s.size) old e
    have hcm : grownCap w (n + s.size) old e ≤ maxLen := grownCap_le_maxLen w (n + s.size) old e h63
    refine ⟨⟨hlen, .inr ⟨w.heap.size, _, _, rfl, Nat.zero_le _, heap_alloc_new w.drew _, hge, hcm, ?_, ?_⟩⟩, ⟨rfl, rfl, rfl, by simp, fun k hk _ => Go.RowKit.Below.heap_alloc w.drew _ k hk⟩, ⟨hge, hcm, by simp, by simp⟩⟩
    · have hz1 : (Value.int IntKind.u8 0).cells.size = 1 := rfl
      simp only [Array.size_append, List.size_toArray, size_zeroCells, hz1, hxl, Lib.strCells_length]
      omega
    · simp only [Array.toList_append, List.append_assoc]
      rw [← List.append_assoc, ← hlen]
      exact List.take_left
  rcases hown.2 with ⟨hv, hn0⟩ | ⟨g, cap, cur, hv, hbg, hg, hnc, hcm, hcs, htake⟩
  · simp at hv
    obtain ⟨rfl, -, rfl⟩ := hv
    subst hn0
    have hx : xs = [] := List.eq_nil_of_length_eq_zero hxl
    subst hx
    by_cases hm : s.size = 0
    · have hn : Lib.strCells s = [] := List.eq_nil_of_length_eq_zero (by rw [Lib.strCells_length]; exact hm)
      refine ⟨none, 0, w, ?_, by rw [hm, hn]; exact World.ownsRow_nil w 0 e 1, ⟨rfl, rfl, rfl, Nat.le_refl _, fun _ _ _ => rfl⟩, ⟨by omega, Nat.zero_le _, fun _ => ⟨by omega, rfl⟩, by simp⟩, by simp⟩
      have hf := Lib.run_firstCells_string (P := P) w 1 s
      rw [hm] at hf
      simp [Builtin.append_, run_underlying ht, run_underlying hu, sizeOf, typeInfo, hi, hsize, Builtin.lenOf, hm, hf]
    · have hr := run_append_nil_string (P := P) w t1 t2 ty e i (.int .u8 0) ht hu hi hz s (by omega) (by omega) (by rw [hby]; omega)
      have hgr := grown 0 (by omega) none
      simp only [Nat.zero_add, List.nil_append, Array.empty_append] at hgr ⊢
      have e1 : (s.data.map fun b => Value.int .u8 b.toNat) = (Lib.strCells s).toArray := by
        apply Array.ext'
        simp [Lib.strCells]
      rw [e1] at hr
      exact ⟨_, _, _, hr, hgr.1, hgr.2.1, hgr.2.2, fun b hb => .inr (by simp at hb; omega)⟩
  · simp at hv
    obtain ⟨rfl, rfl⟩ := hv
    by_cases hroom : n + s.size ≤ c
    · have hcs' : cur.size = c := by simpa using hcs
      have hr := Lib.run_append_room_string (P := P) w t1 t2 ty e i ht hu hi hsize g n c cur hg s hroom (by omega)
      refine ⟨_, _, _, hr, ⟨hlen, .inr ⟨g, c, _, rfl, hbg, setRow_heap w g cur _ e _ hg, hroom, hcm, ?_, ?_⟩⟩, ⟨rfl, rfl, rfl, by simp, fun k _ hk => setRow_other w g k _ (fun e => hk (by simp [e]))⟩, ⟨hroom, hcm, by simp, by simp⟩, fun b hb => .inl hb⟩
      · simp only [List.size_toArray, List.length_append, List.length_take, List.length_drop, Array.length_toList, Lib.strCells_length]
        omega
      · have ht' : cur.toList.take n = xs := by simpa using htake
        rw [ht', ← hlen]
        exact List.take_left
    · have holds : ∀ j u, xs[j]? = some u → w.cell? ((⟨g, 0, none⟩ : Addr).add j) = some u := hown.cells (g := g) rfl
      have hr := Lib.run_append_grow_string (P := P) w t1 t2 ty e i (.int .u8 0) ht hu hi hz ⟨g, 0, none⟩ n c xs (by rw [hsize]; simpa using hxl) holds s (by omega) (by omega) (by rw [hby]; exact growslice_fits (by omega) (by omega))
      have hgr := grown c (by omega) (some g)
      exact ⟨_, _, _, hr, hgr.1, hgr.2.1, hgr.2.2, fun b hb => .inr (by simp at hb; omega)⟩
end
def appStr (e : TypeId) (H : Hp) (s : SV) (str : ByteArray) (k : SV → Hp → Prop) : Prop :=
  match s with
  | .own ri A n c => nd (nth H.rows ri) fun r => (r.A = A ∧ r.n = n ∧ r.c = c ∧ r.fro = false ∧ r.sz = 1 ∧ r.e = e ∧ n + str.size ≤ maxLen ∧ n + str.size ≤ 140737488355328) ∧
      ∀ A' c', RowV A' (n + str.size) c' → setRow H ri ⟨A', n + str.size, c', e, 1, r.es ++ bytesSV str, false⟩ fun H' => k (.own ri A' (n + str.size) c') H'
  | .v (.slice none 0 0) => (str.size ≤ maxLen ∧ str.size ≤ 140737488355328) ∧ ∀ A' c', RowV A' str.size c' → addRow H ⟨A', str.size, c', e, 1, bytesSV str, false⟩ fun ri H' => k (.own ri A' str.size c') H'
  | _ => False
/-! ### Builtins -/
def min2 (b : Builtin) (k : IntKind) (x y : Int) : Int := match b with | .min => (if y < x then y else x) | _ => (if y > x then y else x)
def foldI (b : Builtin) (k : IntKind) : Int → List SV → (Int → Prop) → Prop
  | x, [], c => c x
  | x, s :: r, c => match s with
    | .v (.int k' y) => match kindEq k k' with | true => foldI b k (min2 b k x y) r c | false => False
    | _ => False

/-- The elements that a slice has. -/
def srcS (H : Hp) (sz : Nat) (s : SV) (k : List SV → Prop) : Prop :=
  match s with
  | .lst _ sz' es => sz' = sz ∧ k es
  | .own ri A n c => nd (nth H.rows ri) fun r => (r.A = A ∧ r.n = n ∧ r.c = c ∧ r.sz = sz) ∧ k r.es
  | .v (.slice none 0 0) => k []
  | _ => False
def appS (e sz eb : Nat) (H : Hp) (s : SV) (vs : List SV) (k : SV → Hp → Prop) : Prop :=
  match s with
  | .own ri A n c => nd (nth H.rows ri) fun r => (r.A = A ∧ r.n = n ∧ r.c = c ∧ r.fro = false ∧ r.sz = sz ∧ r.e = e ∧ n + vs.length ≤ maxLen ∧ (n + vs.length) * eb ≤ 140737488355328) ∧
      ∀ A' c', RowV A' (n + vs.length) c' → lf (r.es ++ vs) fun es => setRow H ri ⟨A', n + vs.length, c', e, sz, es, false⟩ fun H' => k (.own ri A' (n + vs.length) c') H'
  | .v (.slice none 0 0) => (vs.length ≤ maxLen ∧ vs.length * eb ≤ 140737488355328) ∧ ∀ A' c', RowV A' vs.length c' → addRow H ⟨A', vs.length, c', e, sz, vs, false⟩ fun ri H' => k (.own ri A' vs.length c') H'
  | .lst true sz' [] => (vs.length ≤ maxLen ∧ vs.length * eb ≤ 140737488355328) ∧ match vs with
    | [] => k (.lst true sz' []) H
    | _ :: _ => ∀ A' c', RowV A' vs.length c' → addRow H ⟨A', vs.length, c', e, sz, vs, false⟩ fun ri H' => k (.own ri A' vs.length c') H'
  | _ => False
def bltS (T : List TI) (P : Program) (b : Builtin) (ts : List TypeId) (as : List SV) (H : Hp) (k : SV → Hp → Prop) : Prop :=
  match b with
  | .len => nd (nth ts 0) fun t => nd (getT T t) fun i => match i.d, as with
    | .string, [.v (.string s)] => k (.v (.int .i64 s.size)) H
    | .slice _ _ _ _, [.v (.slice _ n _)] => k (.v (.int .i64 n)) H
    | .slice _ _ _ _, [.lst _ _ es] => k (.v (.int .i64 es.length)) H
    | .slice _ _ _ _, [.own _ _ n _] => k (.v (.int .i64 n)) H
    | .array n _ _, [_] => k (.v (.int .i64 n)) H
    | _, _ => False
  | .min => match as with
    | .v (.int kd x) :: r => foldI .min kd x r fun z => k (.v (.int kd z)) H
    | _ => False
  | .max => match as with
    | .v (.int kd x) :: r => foldI .max kd x r fun z => k (.v (.int kd z)) H
    | _ => False
  | .cap => nd (nth ts 0) fun t => nd (getT T t) fun i => match i.d, as with
    | .slice _ _ _ _, [.v (.slice _ _ c)] => k (.v (.int .i64 c)) H
    | .slice _ _ _ _, [.lst true _ es] => k (.v (.int .i64 es.length)) H
    | .slice _ _ _ _, [.own _ _ _ c] => k (.v (.int .i64 c)) H
    | _, _ => False
  | .append => match ts, as with
    | [t1, t2], [s, x] => match x with
      | .v (.string str) => nd (strInfo T t1 t2) fun e => appStr e H s str k
      | x => nd (appInfo T t1 t2) fun p => srcS H p.2.1 x fun vs => appS p.1 p.2.1 p.2.2 H s vs k
    | _, _ => False
  | _ => False

section
variable {P : Program} {β : Gh} {H : Hp} {w : World}
theorem foldI_run (b : Builtin) (kd : IntKind) : ∀ (l : List SV) (x : Int) (ys : List Value) (c : Int → Prop), DenL β l ys → foldI b kd x l c →
    ∃ z, c z ∧ (b = .min → ((ys.foldlM Builtin.min2 (.int kd x) : Sem Value).run P w = .ok (.int kd z) w)) ∧ (b = .max → ((ys.foldlM Builtin.max2 (.int kd x) : Sem Value).run P w = .ok (.int kd z) w))
  | [], x, ys, c, hd, h => by simp [DenL] at hd; subst hd; exact ⟨x, h, fun _ => rfl, fun _ => rfl⟩
  | s :: r, x, ys, c, hd, h => by
    obtain ⟨y, zs, h1, h2, rfl⟩ := hd
    simp only [foldI] at h
    split at h
    · rename_i k' y'
      split at h
      · rename_i hk
        have hk := kindEq_eq hk
        subst hk
        simp only [Den] at h1
        subst h1
        obtain ⟨z, hz, hmin, hmax⟩ := foldI_run b kd r _ zs c h2 h
        refine ⟨z, hz, fun e => ?_, fun e => ?_⟩
        · have := hmin e
          subst e
          simp only [List.foldlM_cons, Sem.run_bind, Builtin.min2, Sem.run_pure, Result.andThen_ok]
          exact this
        · have := hmax e
          subst e
          simp only [List.foldlM_cons, Sem.run_bind, Builtin.max2, Sem.run_pure, Result.andThen_ok]
          exact this
      · exact h.elim
    · exact h.elim


theorem srcS_run (R : Rep β H w) {sz : Nat} {s : SV} {x : Value} {k : List SV → Prop} (hd : Den β s x) (h : srcS H sz s k) :
    ∃ es ws, k es ∧ DenL β es ws ∧ (∀ u ∈ ws, u.cells.size = sz) ∧ (∀ u ∈ cellsL ws, u.oneCell' = true) ∧
      ((x = .slice none 0 0 ∧ ws = []) ∨ ∃ a c, x = .slice (some a) ws.length c ∧ ∀ (j : Nat) (u : Value), (cellsL ws)[j]? = some u → w.cell? (a.add j) = some u) := by
  unfold srcS at h
  split at h
  · rename_i f sz' es
    obtain ⟨rfl, h⟩ := h
    obtain ⟨A, n, c, ws, h1, h2, rfl⟩ := hd
    refine ⟨es, ws, h, h1, h2.sz, h2.one, ?_⟩
    cases A with
    | none =>
      have h3 := h2.nil rfl
      have h4 := h2.len
      obtain ⟨rfl, rfl⟩ := h3
      exact .inl ⟨rfl, List.eq_nil_of_length_eq_zero h4⟩
    | some a => exact .inr ⟨a, c, by rw [h2.len], fun j u hu => (R.g _ _ (h2.mem a rfl j u hu)).1⟩
  · rename_i ri A n c
    replace h := nd_elim h
    obtain ⟨r, hr, ⟨hA, hn, hc, hsz⟩, h⟩ := h
    rw [nth_eq] at hr
    simp only [Den] at hd
    subst hd
    have hrm := List.mem_of_getElem? hr
    obtain ⟨ws, h1, h2, h3, h4⟩ := R.row r hrm
    have hone : ∀ u ∈ cellsL ws, u.oneCell' = true := by
      split at h4
      · exact h4.one
      · exact h4.2
    have hmem : ∀ a, r.A = some a → ∀ (j : Nat) (u : Value), (cellsL ws)[j]? = some u → w.cell? (a.add j) = some u := by
      intro a ha j u hu
      split at h4
      · exact (R.g _ _ (h4.mem a ha j u hu)).1
      · obtain ⟨⟨h5, h6⟩, _⟩ := h4
        have h6' := h6
        rcases h6 with ⟨h6, _⟩ | ⟨g, cap, cur, e1, _⟩
        · rw [ha] at h6; cases h6
        · injection e1 with e1 _ _
          rw [ha] at e1
          injection e1 with e1
          subst e1
          exact World.ownsRow.cells (v := .slice r.A r.n r.c) (n := r.n) (size := r.sz) (e := r.e) (base := 0) ⟨h5, h6'⟩ (g := g) (by rw [ha]; rfl) j u hu
    subst hsz
    refine ⟨r.es, ws, h, h1, h2, hone, ?_⟩
    cases hA' : A with
    | none =>
      rw [hA'] at hA
      have hz : r.n = 0 ∧ r.c = 0 := by
        split at h4
        · exact h4.nil hA
        · obtain ⟨⟨_, h6⟩, _⟩ := h4
          rcases h6 with ⟨h6, h7⟩ | ⟨g, cap, cur, e1, _⟩
          · injection h6 with _ _ h8; exact ⟨h7, h8⟩
          · rw [hA] at e1; injection e1 with e1; cases e1
      rw [← hn, ← hc, hz.1, hz.2]
      exact .inl ⟨rfl, List.eq_nil_of_length_eq_zero (by rw [h3, hz.1])⟩
    | some a => exact .inr ⟨a, c, by rw [h3, hn], fun j u hu => hmem a (by rw [hA, hA']) j u hu⟩
  · simp only [Den] at hd
    exact ⟨[], [], h, rfl, by simp, by simp [cellsL], .inl ⟨hd, rfl⟩⟩
  · exact h.elim
theorem row_nil (R : Rep β H w) {r : Row} (hr : r ∈ H.rows) (hA : r.A = none) : r.n = 0 ∧ r.c = 0 := by
  obtain ⟨ws, _, _, _, h4⟩ := R.row r hr
  split at h4
  · exact h4.nil hA
  · obtain ⟨⟨_, h6⟩, _⟩ := h4
    rcases h6 with ⟨h6, h7⟩ | ⟨g, cap, cur, e1, _⟩
    · injection h6 with _ _ h8; exact ⟨h7, h8⟩
    · rw [hA] at e1; injection e1 with e1; cases e1
theorem run_append_zero {t1 t2 e sz eb : Nat} (I : AppInfo P t1 t2 e sz eb) (ty : TypeId) (A : Option Addr) {x : Value} (hx : x = .slice none 0 0 ∨ ∃ a c, x = .slice (some a) 0 c) :
    (Builtin.append_ #[t1, t2] ty #[.slice A 0 0, x]).run P w = .ok (.slice A 0 0) w := by
  obtain ⟨i, z, e2, hu1, hu2, hi, hsz, hby, hz, hzl, hpos⟩ := I
  rw [append_types hu1 hu2 hi]
  rcases hx with rfl | ⟨a, c, rfl⟩
  · cases A <;> simp [Builtin.append_, run_underlying hu1, sizeOf, typeInfo, hi, Builtin.lenOf, Builtin.firstCells, storeCells, Sem.run_pure]
  · cases A <;> simp [Builtin.append_, run_underlying hu1, sizeOf, typeInfo, hi, Builtin.lenOf, Builtin.firstCells, storeCells, loadCells, loadCellsFrom, Sem.run_pure]
theorem run_append_cap0 {t1 t2 e sz eb : Nat} (I : AppInfo P t1 t2 e sz eb) (ty : TypeId) (b a : Addr) {n c : Nat} {news : List Value} (hl : news.length = n * sz) (hc : ∀ (j : Nat) (u : Value), news[j]? = some u → w.cell? (a.add j) = some u)
    (h0 : 0 < n) (h63 : n ≤ maxLen) (hb : n * eb ≤ 140737488355328) :
    (Builtin.append_ #[t1, t2] ty #[.slice (some b) 0 0, .slice (some a) n c]).run P w = (Builtin.append_ #[t1, t2] ty #[.slice none 0 0, .slice (some a) n c]).run P w := by
  obtain ⟨i, z, e2, hu1, hu2, hi, hsz, hby, hz, hzl, hpos⟩ := I
  subst hsz
  subst hby
  have h63' : (n : Int) ≤ 9223372036854775807 := by simp only [maxLen] at h63; omega
  rw [append_types hu1 hu2 hi, append_types hu1 hu2 hi]
  have h1 := run_append_grow (P := P) w t1 ty e i z hu1 hi hz b 0 0 [] (by simp) (by simp) a n c news hl hc (by omega) (by simpa using h63') (growslice_fits (by omega) (by simpa using hb))
  have h2 := run_append_nil (P := P) w t1 ty e i z hu1 hi hz a n c news hl hc h0 h63' (by omega)
  rw [h1, h2]
  simp
/-- append: to a row of the run's own; to nothing. -/
theorem appS_run (R : Rep β H w) {t1 t2 e sz eb : Nat} (I : AppInfo P t1 t2 e sz eb) {s : SV} {vs : List SV} {x y : Value} {ws : List Value} {k : SV → Hp → Prop}
    (hd : Den β s y) (hv : DenL β vs ws) (hs : ∀ u ∈ ws, u.cells.size = sz) (h1 : ∀ u ∈ cellsL ws, u.oneCell' = true)
    (hx : (x = .slice none 0 0 ∧ ws = []) ∨ ∃ a c, x = .slice (some a) ws.length c ∧ ∀ (j : Nat) (u : Value), (cellsL ws)[j]? = some u → w.cell? (a.add j) = some u)
    (h : appS e sz eb H s vs k) (ty : TypeId) :
    ∃ z w' s' H', (Builtin.append_ #[t1, t2] ty #[y, x]).run P w = .ok z w' ∧ Den β s' z ∧ Rep β H' w' ∧ Ext β H w β H' w' ∧ k s' H' := by
  have hvl := hv.length
  have hcl := cellsL_length hs
  have hx' : (x = .slice none 0 0 ∧ ws.length = 0 ∧ cellsL ws = []) ∨ ∃ a c2, x = .slice (some a) ws.length c2 ∧ ∀ j u, (cellsL ws)[j]? = some u → w.cell? (a.add j) = some u := by
    rcases hx with ⟨hx, rfl⟩ | hx
    · exact .inl ⟨hx, rfl, rfl⟩
    · exact .inr hx
  -- to nothing
  have new : (Builtin.append_ #[t1, t2] ty #[y, x]).run P w = (Builtin.append_ #[t1, t2] ty #[.slice none 0 0, x]).run P w → (vs.length ≤ maxLen ∧ vs.length * eb ≤ 140737488355328) → (∀ A' c', RowV A' vs.length c' → addRow H ⟨A', vs.length, c', e, sz, vs, false⟩ fun ri H' => k (.own ri A' vs.length c') H') →
      ∃ z w' s' H', (Builtin.append_ #[t1, t2] ty #[y, x]).run P w = .ok z w' ∧ Den β s' z ∧ Rep β H' w' ∧ Ext β H w β H' w' ∧ k s' H' := by
    rintro hyr ⟨hm, hb⟩ h
    obtain ⟨A', c', w', hr, ho, hg, hv', hk, hbl⟩ := run_app I (World.ownsRow_nil w 0 e sz) (by rw [hcl]) hx' h1 (by omega) (by rw [Nat.zero_add, ← hvl] at *; omega) ty
    rw [Nat.zero_add] at hr ho hv'
    rw [hvl] at hr ho hv'
    rw [hyr]
    replace h := addRow_eq (h A' c' hv')
    obtain ⟨R', X'⟩ := R.rowAdd (r' := ⟨A', vs.length, c', e, sz, vs, false⟩) ⟨ws, hv, hs, hvl, by simpa using ho, h1⟩ ⟨hg.os, hg.tape, hg.output, hg.size⟩ (fun k hk => hg.block k hk (by simp)) (fun b hb => by
      rcases hbl b (by simpa [Row.blk] using hb) with h | h
      · simp at h
      · exact h)
    exact ⟨_, w', .own H.rows.length A' vs.length c', _, hr, rfl, R', X', h⟩
  unfold appS at h
  split at h
  · rename_i ri A n c
    replace h := nd_elim h
    obtain ⟨r, hr, ⟨hA, hn, hc, hfro, hsz, he, hm, hb⟩, h⟩ := h
    rw [nth_eq] at hr
    simp only [Den] at hd
    subst hd
    have hrm := List.mem_of_getElem? hr
    obtain ⟨us, g1, g2, g3, g4⟩ := R.row r hrm
    rw [hfro] at g4
    obtain ⟨g5, g6⟩ := g4
    rw [hA, hn, hc, he, hsz] at g5
    obtain ⟨A', c', w', hrun, ho, hg, hv', hk, hbl⟩ := run_app I g5 (by rw [hcl]) hx' h1 (by omega) (by rw [hvl]; exact hb) ty
    rw [hvl] at hrun ho hv'
    replace h := h A' c' hv'
    rw [lf_eq] at h
    replace h := setRow_eq h
    rw [← cellsL_append] at ho
    have hrb : r.blk = A.map (·.block) := by simp only [Row.blk, hfro, hA]
    obtain ⟨R', X'⟩ := R.rowSet (r' := ⟨A', n + vs.length, c', e, sz, r.es ++ vs, false⟩) hr ⟨us ++ ws, g1.append hv, by
        intro u hu
        rcases List.mem_append.1 hu with hu | hu
        · rw [← hsz]; exact g2 u hu
        · exact hs u hu, by rw [List.length_append, g3, hn, hvl], ho, by
        intro u hu
        rw [cellsL_append] at hu
        rcases List.mem_append.1 hu with hu | hu
        · exact g6 u hu
        · exact h1 u hu⟩ ⟨hg.os, hg.tape, hg.output, hg.size⟩ (fun k hk hne => hg.block k hk (by rw [← hrb]; exact fun e => hne (by rw [e]))) (fun b hb => by
      rcases hbl b (by simpa [Row.blk] using hb) with h | h
      · exact .inl (by rw [hrb]; exact h)
      · exact .inr h)
    exact ⟨_, w', .own ri A' (n + vs.length) c', _, hrun, rfl, R', X', h⟩
  · simp only [Den] at hd
    subst hd
    exact new rfl h.1 h.2
  · rename_i sz'
    obtain ⟨A, n, c, us, g1, g2, rfl⟩ := hd
    simp only [DenL] at g1
    subst g1
    have hn0 : n = 0 := by have := g2.len; simpa using this.symm
    have hc0 : c = 0 := by have := g2.full rfl; omega
    subst hn0; subst hc0
    obtain ⟨⟨hm, hb⟩, h⟩ := h
    split at h
    · have hvl0 : ws.length = 0 := by simpa using hvl
      have hr := run_append_zero (w := w) I ty A (x := x) (by
        rcases hx with ⟨hx, _⟩ | ⟨a, c, hx, _⟩
        · exact .inl hx
        · exact .inr ⟨a, c, by rw [hx, hvl0]⟩)
      exact ⟨_, w, .lst true sz' [], H, hr, ⟨A, 0, 0, [], rfl, g2, rfl⟩, R, Ext.refl _ _ _, h⟩
    · rename_i v0 vr
      refine new ?_ ⟨hm, hb⟩ h
      cases A with
      | none => rfl
      | some b =>
        rcases hx with ⟨_, hw0⟩ | ⟨a, c, hx, hc⟩
        · rw [hw0] at hvl; simp at hvl
        · rw [hx]
          exact run_append_cap0 I ty b a hcl hc (by rw [hvl]; simp) (by omega) (by rw [hvl]; exact hb)
  · exact h.elim
theorem bytesSV_len (s : ByteArray) : (bytesSV s).length = s.size := by
  unfold bytesSV; rw [List.length_map, Array.length_toList]; rfl
theorem bytesV_den {β : Gh} (s : ByteArray) : DenL β (bytesSV s) (bytesV s) := by
  unfold bytesSV bytesV
  induction s.data.toList with
  | nil => rfl
  | cons b r ih => exact ⟨_, _, rfl, ih, rfl⟩
theorem bytesV_one (s : ByteArray) : ∀ u ∈ bytesV s, u.cells.size = 1 := by
  intro u hu
  unfold bytesV at hu
  obtain ⟨b, _, rfl⟩ := List.mem_map.1 hu
  rfl
theorem bytesV_cell (s : ByteArray) : ∀ u ∈ cellsL (bytesV s), u.oneCell' = true := by
  rw [cellsL_bytes]
  exact Lib.strCells_oneCell s
/-- append: a string, to a row of the run's own; to nothing. -/
theorem appStr_run (R : Rep β H w) {t1 t2 e : TypeId} (I : StrInfo P t1 t2 e) {s : SV} {str : ByteArray} {y : Value} {k : SV → Hp → Prop} (hd : Den β s y) (h : appStr e H s str k) (ty : TypeId) :
    ∃ z w' s' H', (Builtin.append_ #[t1, t2] ty #[y, .string str]).run P w = .ok z w' ∧ Den β s' z ∧ Rep β H' w' ∧ Ext β H w β H' w' ∧ k s' H' := by
  unfold appStr at h
  split at h
  · rename_i ri A n c
    replace h := nd_elim h
    obtain ⟨r, hr, ⟨hA, hn, hc, hfro, hsz, he, hm, hb⟩, h⟩ := h
    rw [nth_eq] at hr
    simp only [Den] at hd
    subst hd
    have hrm := List.mem_of_getElem? hr
    obtain ⟨us, g1, g2, g3, g4⟩ := R.row r hrm
    rw [hfro] at g4
    obtain ⟨g5, g6⟩ := g4
    rw [hA, hn, hc, he, hsz] at g5
    obtain ⟨A', c', w', hrun, ho, hg, hv', hbl⟩ := run_appStr I g5 str hm hb ty
    replace h := setRow_eq (h A' c' hv')
    rw [← cellsL_bytes, ← cellsL_append] at ho
    have hrb : r.blk = A.map (·.block) := by simp only [Row.blk, hfro, hA]
    obtain ⟨R', X'⟩ := R.rowSet (r' := ⟨A', n + str.size, c', e, 1, r.es ++ bytesSV str, false⟩) hr ⟨us ++ bytesV str, g1.append (bytesV_den str), by
        intro u hu
        rcases List.mem_append.1 hu with hu | hu
        · rw [← hsz]; exact g2 u hu
        · exact bytesV_one str u hu, by rw [List.length_append, g3, hn]; simp [bytesV], ho, by
        intro u hu
        rw [cellsL_append] at hu
        rcases List.mem_append.1 hu with hu | hu
        · exact g6 u hu
        · exact bytesV_cell str u hu⟩ ⟨hg.os, hg.tape, hg.output, hg.size⟩ (fun k hk hne => hg.block k hk (by rw [← hrb]; exact fun e => hne (by rw [e]))) (fun b hb => by
      rcases hbl b (by simpa [Row.blk] using hb) with h | h
      · exact .inl (by rw [hrb]; exact h)
      · exact .inr h)
    exact ⟨_, w', .own ri A' (n + str.size) c', _, hrun, rfl, R', X', h⟩
  · simp only [Den] at hd
    subst hd
    obtain ⟨⟨hm, hb⟩, h⟩ := h
    obtain ⟨A', c', w', hr, ho, hg, hv', hbl⟩ := run_appStr I (World.ownsRow_nil w 0 e 1) str (by omega) (by omega) ty
    rw [Nat.zero_add, List.nil_append] at ho
    rw [Nat.zero_add] at hr hv'
    replace h := addRow_eq (h A' c' hv')
    rw [← cellsL_bytes] at ho
    obtain ⟨R', X'⟩ := R.rowAdd (r' := ⟨A', str.size, c', e, 1, bytesSV str, false⟩) ⟨bytesV str, bytesV_den str, bytesV_one str, by simp [bytesV], ho, bytesV_cell str⟩ ⟨hg.os, hg.tape, hg.output, hg.size⟩ (fun k hk => hg.block k hk (by simp)) (fun b hb => by
      rcases hbl b (by simpa [Row.blk] using hb) with h | h
      · simp at h
      · exact h)
    exact ⟨_, w', .own H.rows.length A' str.size c', _, hr, rfl, R', X', h⟩
  · exact h.elim
end
end Go.Sy

/- Sy, part H: calls, regions in their order, code. -/
namespace Go.Sy
open Go

section
variable {P : Program} {β : Gh} {H : Hp} {w : World}
theorem bltS_goes {T : List TI} (hT : TabOk T P) (R : Rep β H w) {b : Builtin} {ts : Array TypeId} {ty : TypeId} {cn : Array Bool} {as : List SV} {xs : List Value} (hd : DenL β as xs) {k : SV → Hp → Prop}
    (h : bltS T P b ts.toList as H k) : Goes P β H w (builtin b ts ty cn xs.toArray) k := by
  unfold bltS at h
  split at h
  · replace h := nd_elim h
    obtain ⟨t, ht, h⟩ := h
    replace h := nd_elim h
    obtain ⟨i, hi, h⟩ := h
    rw [nth_eq] at ht
    have ht' : ts[0]? = some t := by simpa using ht
    obtain ⟨ti⟩ := hT.get hi
    have htd := ti.d
    split at h
    · rename_i s hid
      obtain ⟨y, zs, h1, h2, rfl⟩ := hd
      simp only [Den] at h1
      simp only [DenL] at h2
      subst h1; subst h2
      have hdesc : ti.desc = .string := by
        rw [hid] at htd
        unfold tdOf at htd
        split at htd <;> try (first | (simp at htd; done) | (split at htd <;> simp at htd; done))
        rename_i hdesc
        exact hdesc
      refine .plain R ?_ h
      simp [builtin, Builtin.len_, ht', ti.run_und, hdesc, goInt]
    · rename_i e es eb ea A n c hid
      obtain ⟨y, zs, h1, h2, rfl⟩ := hd
      simp only [Den] at h1
      simp only [DenL] at h2
      subst h1; subst h2
      have hdesc : ∃ e, ti.desc = .slice e := by
        rw [hid] at htd
        unfold tdOf at htd
        split at htd <;> try (first | (simp at htd; done) | (split at htd <;> simp at htd; done))
        rename_i e hdesc
        exact ⟨e, hdesc⟩
      obtain ⟨e, hdesc⟩ := hdesc
      refine .plain R ?_ h
      simp [builtin, Builtin.len_, ht', ti.run_und, hdesc, goInt]
    · rename_i e es eb ea f sz l hid
      obtain ⟨y, zs, h1, h2, rfl⟩ := hd
      obtain ⟨A, n, c, ws, g1, g2, rfl⟩ := h1
      simp only [DenL] at h2
      subst h2
      have hn : n = l.length := by rw [← g2.len, g1.length]
      obtain ⟨_, hdesc, _⟩ := desc_slice ti hid
      refine .plain R ?_ h
      simp [builtin, Builtin.len_, ht', ti.run_und, hdesc, goInt, hn]
    · rename_i e es eb ea ri A n c hid
      obtain ⟨y, zs, h1, h2, rfl⟩ := hd
      simp only [Den] at h1
      simp only [DenL] at h2
      subst h1; subst h2
      obtain ⟨_, hdesc, _⟩ := desc_slice ti hid
      refine .plain R ?_ h
      simp [builtin, Builtin.len_, ht', ti.run_und, hdesc, goInt]
    · rename_i n es ea s hid
      obtain ⟨y, zs, h1, h2, rfl⟩ := hd
      simp only [DenL] at h2
      subst h2
      have hdesc : ∃ e, ti.desc = .array n e := by
        rw [hid] at htd
        unfold tdOf at htd
        split at htd <;> try (first | (simp at htd; done) | (split at htd <;> simp at htd; done))
        rename_i n' e hdesc
        split at htd
        · have hx := htd
          simp at hx
          exact ⟨e, by rw [hdesc, hx.1]⟩
        · cases htd
      obtain ⟨e, hdesc⟩ := hdesc
      refine .plain R ?_ h
      simp only [builtin, Builtin.len_, Sem.run_bind]
      simp [ht', ti.run_und, hdesc, goInt]
    · exact h.elim
  · split at h
    · rename_i kd x r
      obtain ⟨y, zs, h1, h2, rfl⟩ := hd
      simp only [Den] at h1
      subst h1
      obtain ⟨z, hz, hm, _⟩ := foldI_run (P := P) (w := w) .min kd r x zs _ h2 h
      refine .plain R ?_ hz
      have := hm rfl
      simp [builtin, Builtin.min_, this]
    · exact h.elim
  · split at h
    · rename_i kd x r
      obtain ⟨y, zs, h1, h2, rfl⟩ := hd
      simp only [Den] at h1
      subst h1
      obtain ⟨z, hz, _, hm⟩ := foldI_run (P := P) (w := w) .max kd r x zs _ h2 h
      refine .plain R ?_ hz
      have := hm rfl
      simp [builtin, Builtin.max_, this]
    · exact h.elim
  · replace h := nd_elim h
    obtain ⟨t, ht, h⟩ := h
    replace h := nd_elim h
    obtain ⟨i, hi, h⟩ := h
    rw [nth_eq] at ht
    have ht' : ts[0]? = some t := by simpa using ht
    obtain ⟨ti⟩ := hT.get hi
    have htd := ti.d
    have hdesc : ∀ {e es eb ea}, i.d = .slice e es eb ea → ∃ e, ti.desc = .slice e := by
      intro e es eb ea hid
      rw [hid] at htd
      unfold tdOf at htd
      split at htd <;> try (first | (simp at htd; done) | (split at htd <;> simp at htd; done))
      rename_i e hdesc
      exact ⟨e, hdesc⟩
    split at h
    · rename_i e es eb ea A n c hid
      obtain ⟨y, zs, h1, h2, rfl⟩ := hd
      simp only [Den] at h1
      simp only [DenL] at h2
      subst h1; subst h2
      obtain ⟨e, hdesc⟩ := hdesc hid
      refine .plain R ?_ h
      simp [builtin, Builtin.cap_, ht', ti.run_und, hdesc, goInt]
    · rename_i e es eb ea sz l hid
      obtain ⟨y, zs, h1, h2, rfl⟩ := hd
      obtain ⟨A, n, c, ws, g1, g2, rfl⟩ := h1
      simp only [DenL] at h2
      subst h2
      have hn : c = l.length := by rw [g2.full rfl, ← g2.len, g1.length]
      obtain ⟨e, hdesc⟩ := hdesc hid
      refine .plain R ?_ h
      simp [builtin, Builtin.cap_, ht', ti.run_und, hdesc, goInt, hn]
    · rename_i e es eb ea ri A n c hid
      obtain ⟨y, zs, h1, h2, rfl⟩ := hd
      simp only [Den] at h1
      simp only [DenL] at h2
      subst h1; subst h2
      obtain ⟨e, hdesc⟩ := hdesc hid
      refine .plain R ?_ h
      simp [builtin, Builtin.cap_, ht', ti.run_und, hdesc, goInt]
    · exact h.elim
  · split at h
    case h_2 => exact h.elim
    rename_i t1 t2 s x hts
    split at h
    · rename_i str
      replace h := nd_elim h
      obtain ⟨e, hi, h⟩ := h
      obtain ⟨I⟩ := strInfo_eq hT hi
      obtain ⟨y, zs, h1, ⟨x', zs2, h2, h3, rfl⟩, rfl⟩ := hd
      simp only [DenL] at h3
      simp only [Den] at h2
      subst h3; subst h2
      obtain ⟨z, w', s', H', hr, hdz, R', X', hk⟩ := appStr_run R I h1 h ty
      refine ⟨z, w', β, s', H', .inl ?_, hdz, R', X', hk⟩
      have hts' : ts = #[t1, t2] := by apply Array.ext'; simpa using hts
      subst hts'
      simp only [builtin, Sem.run_bind, hr, Result.andThen_ok, Sem.run_pure]
    replace h := nd_elim h
    obtain ⟨⟨e, sz, eb⟩, hi, h⟩ := h
    obtain ⟨I⟩ := appInfo_eq hT hi
    obtain ⟨y, zs, h1, ⟨x', zs2, h2, h3, rfl⟩, rfl⟩ := hd
    simp only [DenL] at h3
    subst h3
    obtain ⟨es, ws, h, g1, g2, g3, g4⟩ := srcS_run R h2 h
    obtain ⟨z, w', s', H', hr, hdz, R', X', hk⟩ := appS_run R I h1 g1 g2 g3 g4 h ty
    refine ⟨z, w', β, s', H', .inl ?_, hdz, R', X', hk⟩
    have hts' : ts = #[t1, t2] := by apply Array.ext'; simpa using hts
    subst hts'
    simp only [builtin, Sem.run_bind, hr, Result.andThen_ok, Sem.run_pure]
  · exact h.elim
end
end Go.Sy

