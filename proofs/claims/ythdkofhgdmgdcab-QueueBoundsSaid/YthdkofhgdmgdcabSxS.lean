import Derived.Test.YthdkofhgdmgdcabSxP
/- Sx, part S: lists in memory: slices of them; handing rows over. -/
set_option linter.unusedVariables false
set_option linter.unusedSimpArgs false
namespace Go.Sx
open Go

section
variable {P : Program} {T : List TI} {H : Hp}
theorem slA_zero {A : Option Addr} {es n c : Nat} (h : RowV A n c) : slA A 0 es c = A := by
  unfold slA
  split
  · rfl
  · cases A with
    | none => rfl
    | some a => have := h.at0 a rfl; simp only [Option.map_some, Nat.zero_mul]; rw [this, addr0]
theorem addZero (a : Addr) : a.add 0 = a := by unfold Addr.add; split <;> simp_all
theorem addAdd {g : Nat} (i j : Nat) : ((⟨g, 0, none⟩ : Addr).add i).add j = (⟨g, 0, none⟩ : Addr).add (i + j) := by rw [addr0, addrO, addr0]
/-- A part of a list. -/
theorem Dat.part {g : Addr → Option Value} {a : Addr} {n c size : Nat} {xs : List Value} (h : Dat g (some a) n c size xs) (ha : ∀ i j, (a.add i).add j = a.add (i + j)) {lo hi : Nat} (h1 : lo ≤ hi) (h2 : hi ≤ n) :
    Dat g (slA (some a) lo size c) (hi - lo) (c - lo) size ((xs.drop (lo * size)).take ((hi - lo) * size)) := by
  have hlen := h.len
  have hle := h.le
  have hmul : hi * size ≤ n * size := Nat.mul_le_mul_right _ h2
  have hmul2 : lo * size ≤ hi * size := Nat.mul_le_mul_right _ h1
  have hsub : (hi - lo) * size = hi * size - lo * size := Nat.sub_mul _ _ _
  refine ⟨?_, by omega, by have := h.mx; omega, ?_, ?_⟩
  · simp only [List.length_take, List.length_drop]; omega
  · intro hn
    unfold slA at hn
    split at hn <;> simp at hn
  · intro b hb j u hu
    rw [List.getElem?_take] at hu
    split at hu
    · rename_i hj
      rw [List.getElem?_drop] at hu
      have := h.cells a rfl _ u hu
      unfold slA at hb
      split at hb
      · rename_i hc
        have : hi - lo = 0 := by omega
        rw [this] at hj
        simp at hj
      · simp only [Option.map_some, Option.some.injEq] at hb
        subst hb
        rw [ha]; exact this
    · cases hu
theorem Dat.nilPart {g : Addr → Option Value} {n c size : Nat} {xs : List Value} (h : Dat g none n c size xs) {lo hi : Nat} (h1 : lo ≤ hi) (h2 : hi ≤ n) :
    Dat g (slA none lo size c) (hi - lo) (c - lo) size ((xs.drop (lo * size)).take ((hi - lo) * size)) := by
  obtain ⟨rfl, rfl⟩ := h.nil rfl
  have : hi = 0 := by omega
  subst this
  have : lo = 0 := by omega
  subst this
  refine ⟨by simp, by omega, by simp [maxLen], fun _ => ⟨rfl, rfl⟩, fun a ha => ?_⟩
  unfold slA at ha
  split at ha <;> simp at ha
/-- A row that is nothing yet. -/
theorem Weak.nilRow {K : Hp → Prop} (e size : Nat) (h : addRow H ⟨.slice none 0 0, e, size, 0, []⟩ K) : Weak H K := by
  replace h := addRow_eq h
  refine ⟨fun β w R => ⟨_, ?_, ?_, h⟩⟩
  all_goals
    have hx := R.rowAdd (w' := w) (r' := ⟨.slice none 0 0, e, size, 0, []⟩) (World.ownsRow_nil w 0 e size) ⟨rfl, rfl, rfl, Nat.le_refl _, fun _ _ _ => rfl⟩ (by simp [Value.ownBlock])
  · exact hx.1
  · exact hx.2
/-- The last row is handed over. -/
theorem Weak.last {nb : Nat} {B : List (List SV)} {rs : List Row} {g : Addr → Option Value} {K : Hp → Prop} {A : Option Addr} {n c e size : Nat} {xs : List Value} (hv : RowV A n c) (hl : xs.length = n * size)
    (h : ∀ g', (∀ a v, g a = some v → g' a = some v) → Dat g' A n c size xs → K ⟨nb, B, rs, g'⟩) : Weak ⟨nb, B, rs ++ [⟨.slice A n c, e, size, n, xs⟩], g⟩ K := by
  refine Weak.pub rs.length (r := ⟨.slice A n c, e, size, n, xs⟩) (by simp) fun g' h1 h2 => ?_
  have : (rs ++ [(⟨.slice A n c, e, size, n, xs⟩ : Row)]).eraseIdx rs.length = rs := by simp [List.eraseIdx_append_of_length_le]
  rw [this]
  refine h g' h1 ⟨hl, hv.le, hv.mx, hv.nil, fun a ha j u hu => ?_⟩
  have h3 := h2 a.block (by rw [ha]; rfl) j u hu
  have := hv.at0 a ha
  rw [this]; exact h3
theorem RowV.add {A : Option Addr} {n c : Nat} (h : RowV A n c) {a : Addr} (ha : A = some a) (i j : Nat) : (a.add i).add j = a.add (i + j) := by
  have := h.at0 a ha
  rw [this]; exact addAdd i j
theorem Dat.slice {g : Addr → Option Value} {A : Option Addr} {n c size : Nat} {xs : List Value} (h : Dat g A n c size xs) (hv : RowV A n c) {lo hi : Nat} (h1 : lo ≤ hi) (h2 : hi ≤ n) :
    Dat g (slA A lo size c) (hi - lo) (c - lo) size ((xs.drop (lo * size)).take ((hi - lo) * size)) := by
  cases A with
  | none => exact h.nilPart h1 h2
  | some a => exact h.part (fun i j => hv.add rfl i j) h1 h2
/-- A part of a row, as a source. -/
theorem srcOf_part {size ri c : Nat} {A : Option Addr} {r : Row} {N : Nat} (hr : H.rows[ri]? = some r) (hv : r.v = .slice A N c) (hn : RowV A N c) {lo hi m : Nat} (h1 : lo ≤ hi) (h2 : hi ≤ N) (hm : m ≤ hi - lo) (hl : r.xs.length = N * size) :
    srcOf H size (.v (.slice (slA A lo size c) (hi - lo) (c - lo))) m ((r.xs.drop (lo * size)).take (m * size)) := by
  have hmul : hi * size ≤ N * size := Nat.mul_le_mul_right _ h2
  have hmul2 : lo * size ≤ hi * size := Nat.mul_le_mul_right _ h1
  have hsub : (hi - lo) * size = hi * size - lo * size := Nat.sub_mul _ _ _
  have hmul3 : m * size ≤ (hi - lo) * size := Nat.mul_le_mul_right _ hm
  refine ⟨by simp only [List.length_take, List.length_drop]; omega, hm, fun hA => ?_, fun a ha j u hu => ?_⟩
  · unfold slA at hA
    split at hA
    · have := hn.nil hA; omega
    · cases A with
      | none => have := hn.nil rfl; omega
      | some a => simp at hA
  · rw [List.getElem?_take] at hu
    split at hu
    · rename_i hj
      rw [List.getElem?_drop] at hu
      unfold slA at ha
      split at ha
      · rename_i hc
        have := hn.le
        have : hi - lo = 0 := by omega
        rw [this] at hmul3
        simp at hmul3
        omega
      · cases A with
        | none => simp at ha
        | some b =>
          simp only [Option.map_some, Option.some.injEq] at ha
          subst ha
          refine .inr ⟨r, List.mem_of_getElem? hr, b.block, by rw [hv]; rfl, lo * size + j, ?_, hu⟩
          have := hn.at0 b rfl
          conv => lhs; rw [this]
          rw [addAdd]
    · cases hu
/-- A call's own boxes are forgotten. -/
theorem Tr.drop {f : FuncId} {args : List SV} {rs : List Row} {g : Addr → Option Value} {Q : SV → Hp → Prop} (h : Tr P f args ⟨0, [], rs, g⟩ fun r H' => blw 0 r = true ∧ Q r ⟨0, [], H'.rows, H'.g⟩) : Tr P f args ⟨0, [], rs, g⟩ Q := by
  refine ⟨fun β w xs R hd => (h.run β w xs R hd).mono ?_⟩
  rintro x w' ⟨r, H', β', h1, h2, h3, h4, h5⟩
  have hβ : β = [] := List.eq_nil_of_length_eq_zero R.len
  subst hβ
  have hsub : ∀ b, b ∈ owned [] (⟨0, [], H'.rows, H'.g⟩ : Hp) → b ∈ owned β' H' := by
    intro b hb
    simp only [owned, List.mem_append, List.nil_append] at hb ⊢
    exact .inr hb
  refine ⟨r, ⟨0, [], H'.rows, H'.g⟩, [], Den.free h4 h1, ⟨rfl, rfl, fun i cs b h => by simp at h, h2.row, ?_, fun a v hv => ⟨(h2.g a v hv).1, fun hm => (h2.g a v hv).2 (hsub _ hm)⟩⟩, ⟨List.prefix_refl _, h3.fr, fun b hb => h3.own b (hsub b hb), h3.g, h3.gn⟩, h5⟩
  have := h2.nd
  simp only [owned, List.nil_append] at this ⊢
  exact (List.nodup_append.1 this).2.1
theorem Rep.rowCells {β : List Nat} {w : World} (R : Rep β H w) {r : Row} (hr : r ∈ H.rows) {g : Nat} (hg : r.v.ownBlock = some g) : ∃ cur, w.heap[g]? = some (.cells cur r.e (0, 0)) ∧ r.n * r.size ≤ cur.size := by
  rcases (R.row r hr).2 with ⟨hv, _⟩ | ⟨g', cap, cur, hv, _, hh, hn, _, hcs, _⟩
  · rw [hv] at hg; cases hg
  · rw [hv] at hg
    obtain rfl : g' = g := Option.some.inj hg
    exact ⟨cur, hh, by rw [hcs]; exact Nat.mul_le_mul_right _ hn⟩
theorem Tr.overlaps {f : FuncId} {fn : Func} {tS tR e : TypeId} (hf : P.funcs[f]? = some fn) (hname : (fn.name == "runtime.NumGoroutine") = false) (hb : fn.body.isNone = true) (hn : Extern.findNext fn = none)
    (he : Extern.find fn = some (Extern.SlicesOverlaps.overlaps #[tS, tS] #[tR])) (hu : P.underlying tS = some (.slice e)) {ti : TypeInfo} (hi : P.info? e = some ti) {k : SV → Hp → Prop} (ri rj : Nat) (hij : ri ≠ rj) {r1 r2 : Row}
    (h1 : H.rows[ri]? = some r1) (h2 : H.rows[rj]? = some r2) {a b : Addr} {la ca lb cb : Nat} (ha : r1.v.ownBlock = some a.block) (hb' : r2.v.ownBlock = some b.block) (hn0 : 0 < r2.n * r2.size) (hk : k (.v (.bool false)) H) :
    Tr P f [.v (.slice (some a) la ca), .v (.slice (some b) lb cb)] H k := by
  refine ⟨fun β w xs R hd => .inr ?_⟩
  obtain ⟨y1, y2, rfl, hd1, hd2⟩ := den2 hd
  simp only [Den] at hd1 hd2
  subst hd1; subst hd2
  obtain ⟨c1, hh1, _⟩ := R.rowCells (List.mem_of_getElem? h1) ha
  obtain ⟨c2, hh2, hs2⟩ := R.rowCells (List.mem_of_getElem? h2) hb'
  have hne : a.block ≠ b.block := by
    intro e
    exact hij (fm_inj (List.nodup_append.1 R.nd).2.1 h1 h2 ha (by rw [hb', e]))
  have hrun := Go.Lib.run_overlaps_apart (P := P) w tS tR e hu ti.size (fun w => run_sizeOf' hi w) a b la ca lb cb hne r1.e r2.e c1.size c2.size (by simp [World.shape?, hh1]) (by simp [World.shape?, hh2]) (by omega)
    (by simp [World.frozen?, hh1]) (by simp [World.frozen?, hh1])
  refine ⟨.bool false, w, ?_, .v (.bool false), H, β, rfl, R, Ext.refl _ _ _, hk⟩
  rw [run_callFunc_extern hf hname hb hn he, hrun]
  rfl
theorem Sx.weak {n : Nat} {D : List Deferred} {c : Code} {E : Env} {K : Exit → Env → Hp → Prop} (h : Weak H fun H' => Sx P n D c E H' K) : Sx P n D c E H K := by
  refine ⟨fun β a w R => ?_⟩
  obtain ⟨H', R', X', hk⟩ := h.to β w R.rep
  refine wp_mono (hk.run β a w ⟨R', R.size, R.defers, R.env⟩) ?_
  rintro e a2 w2 ⟨β2, E2, H2, R2, X2, h2⟩
  exact ⟨β2, E2, H2, R2, X'.trans X2, h2⟩
theorem add_add (a : Addr) (i j : Nat) : (a.add i).add j = a.add (i + j) := by
  unfold Addr.add
  by_cases hi : i = 0
  · subst hi; simp
  · by_cases hj : j = 0
    · subst hj; simp
    · simp [hi, hj, Nat.add_assoc]
/-- The rest of a list, behind its first one. -/
theorem Dat.tail {g : Addr → Option Value} {A : Option Addr} {n c : Nat} {xs : List Value} (h : Dat g A (n + 1) c 1 xs) : Dat g (slA A 1 1 c) (n + 1 - 1) (c - 1) 1 xs.tail := by
  have hl := h.len
  cases A with
  | none => have := (h.nil rfl).1; omega
  | some a =>
    have := h.part (fun i j => add_add a i j) (lo := 1) (hi := n + 1) (by omega) (Nat.le_refl _)
    rw [List.take_of_length_le (by simp; omega), Nat.one_mul, List.drop_one] at this
    exact this
end
end Go.Sx
