import Derived.Test.YtmjpidjdbofdjaaYD
import Derived.Laws.StructEq
import Derived.Laws.MakeOwn
import Derived.Laws.IdiomStrings
import Derived.Laws.BytesString
/- Sy, part E: lists that are published; literals. -/
set_option linter.unusedVariables false
set_option linter.unusedSimpArgs false
namespace Go.Sy
open Go

/-! ### A new block whose cells nobody will write -/
def extG (g : Addr → Option Value) (b : Nat) (xs : List Value) : Addr → Option Value := fun a => if a.block = b ∧ a.spot = none then xs[a.off]? else g a
section
variable {P : Program} {β : Gh} {H : Hp} {w : World}
theorem extG_old (R : Rep β H w) (xs : List Value) : ∀ a v, β.g a = some v → extG β.g w.heap.size xs a = some v := by
  intro a v h
  have hlt := World.block_lt_of_cell? w a (R.g a v h).1
  unfold extG
  rw [if_neg (fun e => by omega)]; exact h
/-- Cells of a new block (told in whatever way) are handed over. -/
theorem Rep.pubAt (R : Rep β H w) {w' : World} {cs : Array Value} {t : TypeId} {fz : Nat × Nat} (xs : List Value) (hx : ∀ (j : Nat) (u : Value), xs[j]? = some u → cs[j]? = some u)
    (hh : w'.heap[w.heap.size]? = some (.cells cs t fz)) (hw : w'.os = w.os ∧ w'.tape = w.tape ∧ w'.output = w.output ∧ w.heap.size < w'.heap.size) (ho : ∀ k, k < w.heap.size → w'.heap[k]? = w.heap[k]?) :
    Rep ⟨β.b, extG β.g w.heap.size xs⟩ H w' ∧ Ext β H w ⟨β.b, extG β.g w.heap.size xs⟩ H w' := by
  obtain ⟨hw1, hw2, hw3, hw4⟩ := hw
  have hpre : Gle β ⟨β.b, extG β.g w.heap.size xs⟩ := ⟨List.prefix_refl _, extG_old R xs⟩
  have hO := R.blt
  refine ⟨⟨R.len, R.nb, ?_, ?_, R.nd, ?_⟩, ⟨hpre, ⟨hw1, hw2, hw3, by omega, fun k hk _ => ho k hk⟩, fun _ h => .inl h, ?_⟩⟩
  · intro i x b hi hb
    have h1 := R.box i x b hi hb
    exact h1.mono hpre (by omega) (ho b h1.lt)
  · intro r hr
    exact (R.row r hr).mono hpre (by omega) fun b hb => ho b ((R.row r hr).lt hb)
  · intro a v hg
    simp only [extG] at hg
    split at hg
    · rename_i hab
      refine ⟨?_, fun hm => by have := hO _ hm; omega⟩
      have := cell_of_row w' a.block a.off cs t fz (by rw [hab.1]; exact hh)
      obtain ⟨b, o, s⟩ := a
      simp only at hab this hg
      obtain ⟨rfl, rfl⟩ := hab
      rw [this]; exact hx _ _ hg
    · obtain ⟨h1, h2⟩ := R.g a v hg
      have hlt := World.block_lt_of_cell? w a h1
      exact ⟨by rw [World.cell?_of_block (w := w) (ho a.block hlt)]; exact h1, h2⟩
  · intro a v hg
    simp only [extG] at hg
    split at hg
    · rename_i hab; exact .inr (.inr (by omega))
    · exact .inl hg
theorem Rep.pubNew (R : Rep β H w) (xs : List Value) (t : TypeId) :
    Rep ⟨β.b, extG β.g w.heap.size xs⟩ H (w.alloc (.cells xs.toArray t)) ∧ Ext β H w ⟨β.b, extG β.g w.heap.size xs⟩ H (w.alloc (.cells xs.toArray t)) :=
  R.pubAt xs (fun j u h => by simpa using h) (heap_alloc_new _ _) ⟨rfl, rfl, rfl, by simp⟩ fun k hk => Go.RowKit.Below.heap_alloc _ _ _ hk
theorem slOk_new {g : Addr → Option Value} {b n : Nat} {full : Bool} {sz c : Nat} {ws : List Value} (hl : ws.length = n) (hc : n ≤ c) (hm : c ≤ maxLen) (hf : full = true → c = n) (hs : ∀ u ∈ ws, u.cells.size = sz) (h1 : ∀ u ∈ cellsL ws, u.oneCell' = true) (xs : List Value) (hx : ∀ (j : Nat) (u : Value), (cellsL ws)[j]? = some u → xs[j]? = some u) :
    SlOk (extG g b xs) full sz (some ⟨b, 0, none⟩) n c ws :=
  ⟨hl, hc, hm, (fun h => by cases h), hf, hs, h1, fun a ha j u hu => by
    injection ha with ha
    subst ha
    rw [addr0]
    show (if b = b ∧ (none : Option Nat) = none then xs[j]? else g ⟨b, j, none⟩) = some u
    rw [if_pos ⟨rfl, rfl⟩]
    exact hx j u hu⟩
end

/-! ### Literals of structs and arrays -/
def evParts (E : Env) : List (Nat × Operand) → Option (List (Nat × SV))
  | [] => some []
  | (i, x) :: r => match ev E x with
    | some s => match evParts E r with
      | some l => some ((i, s) :: l)
      | none => none
    | none => none
def place (d : TD) (i : Nat) : Option (Nat × Nat) :=
  match d with
  | .struct fs => match nth fs i with
    | some (o, n, _) => some (o, n)
    | none => none
  | .array _ es _ => some (i * es, es)
  | .slice _ es _ _ => some (i * es, es)
  | _ => none
def fillS (d : TD) : List SV → List (Nat × SV) → (List SV → Prop) → Prop
  | cs, [], k => k cs
  | cs, (i, s) :: r, k => nd (place d i) fun p => match Nat.beq (cells s).length p.2 with
    | true => nd (splice cs p.1 (cells s)) fun cs => lf cs fun cs => fillS d cs r k
    | false => False
/-- Elements of a slice's literal. -/
def fillE (es : Nat) : List SV → List (Nat × SV) → (List SV → Prop) → Prop
  | l, [], k => k l
  | l, (i, s) :: r, k => match Nat.beq (cells s).length es, Nat.blt i l.length with
    | true, true => lf (l.set i s) fun l => fillE es l r k
    | _, _ => False
def onesE : List SV → Bool
  | [] => true
  | e :: r => match ones (cells e) with | true => onesE r | false => false
theorem onesE_cell {β : Gh} : ∀ {l : List SV} {ws : List Value}, onesE l = true → DenL β l ws → ∀ u ∈ cellsL ws, u.oneCell' = true
  | [], _, _, h => by simp [DenL] at h; subst h; simp [cellsL]
  | e :: r, _, h, hd => by
    obtain ⟨y, zs, h1, h2, rfl⟩ := hd
    simp only [onesE] at h
    split at h
    case h_2 => cases h
    rename_i ho
    intro u hu
    rw [cellsL_cons] at hu
    rcases List.mem_append.1 hu with hu | hu
    · exact ones_cell ho (den_cells h1) u hu
    · exact onesE_cell h h2 u hu
def repE : Nat → SV → List SV
  | 0, _ => []
  | n + 1, z => z :: repE n z
theorem repE_eq (z : SV) : ∀ n, repE n z = List.replicate n z
  | 0 => rfl
  | n + 1 => by rw [repE, repE_eq z n]; rfl
/-- An element that is zero. -/
def zel (ag : Bool) (z : List Value) : Option SV :=
  match ag with
  | true => some (.agg (z.map .v))
  | false => match z with
    | [x] => match x.oneCell' with | true => some (.v x) | false => none
    | _ => none

theorem foldl_zip (off : Nat) : ∀ (l : List Value) (s : Nat) (cs : List Value), off + s + l.length ≤ cs.length →
    (l.zipIdx s).foldl (fun (cs : Array Value) (x : Value × Nat) => cs.setIfInBounds (off + x.2) x.1) cs.toArray = (cs.take (off + s) ++ l ++ cs.drop (off + s + l.length)).toArray
  | [], s, cs, h => by simp
  | v :: l, s, cs, h => by
    simp only [List.zipIdx_cons, List.foldl_cons]
    have hlt : off + s < cs.length := by simp at h; omega
    have e : (cs.toArray.setIfInBounds (off + s) v) = (cs.set (off + s) v).toArray := by simp
    rw [e, foldl_zip off l (s + 1) (cs.set (off + s) v) (by simp at h ⊢; omega)]
    congr 1
    have h1 : (cs.set (off + s) v).take (off + (s + 1)) = cs.take (off + s) ++ [v] := by
      rw [show off + (s + 1) = (off + s) + 1 by omega, List.take_succ_eq_append_getElem (by simpa using hlt), List.take_set_of_le (by omega)]
      simp
    have h2 : (cs.set (off + s) v).drop (off + (s + 1) + l.length) = cs.drop (off + s + (v :: l).length) := by
      rw [List.drop_set_of_lt (by omega)]
      congr 1
      simp
      omega
    rw [h1, h2]
    simp
theorem fill_step {d : Nat → Option (Nat × Nat)} {i off sz : Nat} {v : Value} {vs : List (Nat × Value)} {xs : List Value} (hp : d i = some (off, sz)) (hl : v.cells.size = sz) (hle : off + sz ≤ xs.length) :
    Instr.fill d xs.toArray ((i, v) :: vs) = Instr.fill d (xs.take off ++ v.cells.toList ++ xs.drop (off + v.cells.toList.length)).toArray vs := by
  simp only [Instr.fill, hp]
  rw [if_neg (by simp only [Bool.or_eq_true, decide_eq_true_eq]; simp; omega)]
  congr 1
  have := foldl_zip off v.cells.toList 0 xs (by simp; omega)
  rw [← Array.foldl_toList]
  simpa using this

section
variable {P : Program} {β : Gh} {H : Hp} {w : World}
theorem evParts_den {n b0 : Nat} {E : Env} {a : Act} (R : RepA n b0 β E H a w) : ∀ {l : List (Nat × Operand)} {ss : List (Nat × SV)},
    evParts E l = some ss → ss.map (·.1) = (l.map fun x => (x.1, a.eval x.2)).map (·.1) ∧ DenL β (ss.map (·.2)) ((l.map fun x => (x.1, a.eval x.2)).map (·.2))
  | [], _, h => by simp [evParts] at h; subst h; exact ⟨rfl, rfl⟩
  | (i, x) :: r, _, h => by
    simp only [evParts] at h
    split at h
    · rename_i s hs
      split at h
      · rename_i l hl
        injection h with h; subst h
        obtain ⟨h1, h2⟩ := evParts_den R hl
        exact ⟨by simpa using h1, _, _, ev_den R hs, h2, rfl⟩
      · cases h
    · cases h
theorem fillS_fill {d : TD} : ∀ {ps : List (Nat × SV)} {vs : List (Nat × Value)} {cs : List SV} {xs : List Value} {k : List SV → Prop},
    ps.map (·.1) = vs.map (·.1) → DenL β (ps.map (·.2)) (vs.map (·.2)) → DenL β cs xs → fillS d cs ps k → ∃ cs' xs', k cs' ∧ DenL β cs' xs' ∧ Instr.fill (place d) xs.toArray vs = some xs'.toArray
  | [], vs, cs, xs, k, h1, h2, h3, h => by
    cases vs with
    | nil => exact ⟨cs, xs, h, h3, rfl⟩
    | cons _ _ => simp at h1
  | (i, s) :: ps, vs, cs, xs, k, h1, h2, h3, h => by
    cases vs with
    | nil => simp at h1
    | cons v vs =>
      obtain ⟨i', v⟩ := v
      simp only [List.map_cons, List.cons.injEq] at h1
      obtain ⟨hi, h1⟩ := h1
      subst hi
      simp only [List.map_cons] at h2
      obtain ⟨y, zs, hy, hz, he⟩ := h2
      simp only [List.cons.injEq] at he
      obtain ⟨he1, he2⟩ := he
      subst he1
      simp only [fillS] at h
      obtain ⟨p, hp, h⟩ := nd_elim h
      split at h
      case h_2 => exact h.elim
      rename_i hb
      have hb := Nat.eq_of_beq_eq_true hb
      obtain ⟨cs1, hcs1, h⟩ := nd_elim h
      rw [lf_eq] at h
      have hyc := den_cells hy
      have hl := hyc.length
      have hl' : v.cells.size = p.2 := by rw [← hb, ← hl]; simp
      have hsp := splice_eq hcs1
      have hl3 := h3.length
      obtain ⟨cs', xs', hk, hd, hf⟩ := fillS_fill h1 (he2 ▸ hz) (DenL.splice h3 hyc hcs1) h
      refine ⟨cs', xs', hk, hd, ?_⟩
      obtain ⟨off, sz⟩ := p
      rw [fill_step hp hl' (by simp only at hb; omega)]
      exact hf
theorem fillE_fill {es : Nat} : ∀ {ps : List (Nat × SV)} {vs : List (Nat × Value)} {l : List SV} {ws : List Value} {k : List SV → Prop},
    ps.map (·.1) = vs.map (·.1) → DenL β (ps.map (·.2)) (vs.map (·.2)) → DenL β l ws → (∀ u ∈ ws, u.cells.size = es) → fillE es l ps k →
      ∃ l' ws', k l' ∧ DenL β l' ws' ∧ (∀ u ∈ ws', u.cells.size = es) ∧ ws'.length = ws.length ∧ Instr.fill (fun i => some (i * es, es)) (cellsL ws).toArray vs = some (cellsL ws').toArray
  | [], vs, l, ws, k, h1, h2, h3, hs, h => by
    cases vs with
    | nil => exact ⟨l, ws, h, h3, hs, rfl, rfl⟩
    | cons _ _ => simp at h1
  | (i, s) :: ps, vs, l, ws, k, h1, h2, h3, hs, h => by
    cases vs with
    | nil => simp at h1
    | cons v vs =>
      obtain ⟨i', v⟩ := v
      simp only [List.map_cons, List.cons.injEq] at h1
      obtain ⟨hi, h1⟩ := h1
      subst hi
      simp only [List.map_cons] at h2
      obtain ⟨y, zs, hy, hz, he⟩ := h2
      simp only [List.cons.injEq] at he
      obtain ⟨he1, he2⟩ := he
      subst he1
      simp only [fillE] at h
      split at h
      case h_2 => exact h.elim
      rename_i hb hlt
      have hb := Nat.eq_of_beq_eq_true hb
      have hlt : i < l.length := by rw [Nat.blt_eq] at hlt; exact hlt
      rw [lf_eq] at h
      have hyc := den_cells hy
      have hl := hyc.length
      have hl' : v.cells.size = es := by rw [← hb, ← hl]; simp
      have hl3 := h3.length
      have hs' : ∀ u ∈ ws.set i v, u.cells.size = es := by
        intro u hu
        rcases List.mem_or_eq_of_mem_set hu with hu | hu
        · exact hs u hu
        · subst hu; exact hl'
      obtain ⟨l2, ws2, hk, hd, hs2, hl2, hf⟩ := fillE_fill h1 (he2 ▸ hz) (h3.set i hy) hs' h
      refine ⟨l2, ws2, hk, hd, hs2, by simpa using hl2, ?_⟩
      have hcl := cellsL_length hs
      have hm : (i + 1) * es ≤ ws.length * es := Nat.mul_le_mul_right _ (by omega)
      rw [Nat.succ_mul] at hm
      rw [fill_step rfl hl' (by omega)]
      have e : (cellsL (ws.set i v)) = (cellsL ws).take (i * es) ++ v.cells.toList ++ (cellsL ws).drop (i * es + v.cells.toList.length) := by
        rw [cellsL_set hs (by omega) hl']
        simp [hl']
      rw [← e]
      exact hf
theorem zel_den {ag : Bool} {z : Value} {s : SV} (h : zel ag z.cells.toList = some s) : ∃ u, Den β s u ∧ u.cells = z.cells := by
  unfold zel at h
  split at h
  · injection h with h
    subst h
    exact ⟨.agg z.cells, ⟨_, DenL.plain _ _, by simp⟩, rfl⟩
  · split at h
    · rename_i x hx
      split at h
      · rename_i h1
        injection h with h
        subst h
        refine ⟨x, rfl, ?_⟩
        have : z.cells = #[x] := by rw [← hx]
        rw [this]
        cases x <;> first | rfl | (simp [Value.oneCell'] at h1)
      · cases h
    · cases h
theorem DenL.rep {s : SV} {u : Value} (h : Den β s u) : ∀ n, DenL β (List.replicate n s) (List.replicate n u)
  | 0 => rfl
  | n + 1 => ⟨u, _, h, DenL.rep h n, rfl⟩
theorem cellsL_rep (u : Value) : ∀ n, cellsL (List.replicate n u) = (List.replicate n u.cells.toList).flatten
  | 0 => rfl
  | n + 1 => by rw [List.replicate_succ, cellsL_cons, cellsL_rep u n, List.replicate_succ, List.flatten_cons]
theorem madeCells_eq (z : Array Value) (n : Nat) : (Array.range (n * z.size)).map (z[· % z.size]!) = ((List.replicate n z.toList).flatten).toArray := by
  apply Array.ext'
  apply List.ext_getElem?
  intro j
  have hfl : ∀ n j, j < n * z.size → ((List.replicate n z.toList).flatten)[j]? = z.toList[j % z.size]? := by
    intro n
    induction n with
    | zero => intro j h; simp at h
    | succ n ih =>
      intro j h
      rw [List.replicate_succ, List.flatten_cons]
      rcases Nat.lt_or_ge j z.size with hlt | hge
      · rw [List.getElem?_append_left (by simpa using hlt), Nat.mod_eq_of_lt hlt]
      · rw [List.getElem?_append_right (by simpa using hge), ih _ (by rw [Nat.succ_mul] at h; simp only [Array.length_toList]; omega), Nat.mod_eq_sub_mod hge]
        simp
  have hlen : ((List.replicate n z.toList).flatten).length = n * z.size := by simp [List.length_flatten]
  simp only [Array.toList_map, Array.toList_range, List.getElem?_map]
  rcases Nat.lt_or_ge j (n * z.size) with hlt | hge
  · have hz : 0 < z.size := by
      cases hzs : z.size with
      | zero => simp [hzs] at hlt
      | succ m => exact Nat.succ_pos m
    have hm := Nat.mod_lt j hz
    rw [hfl n j hlt]
    simp [hlt, hm]
  · have hn : ((List.replicate n z.toList).flatten)[j]? = none := List.getElem?_eq_none (by omega)
    rw [hn]
    simp only [Option.map_eq_none_iff]
    exact List.getElem?_eq_none (by simpa using hge)
end
end Go.Sy

