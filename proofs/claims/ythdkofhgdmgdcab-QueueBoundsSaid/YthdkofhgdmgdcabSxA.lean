import Derived.Tactics
import Derived.WalkKit
import Derived.Laws.AppendOwn
import Derived.Laws.OwnMore
import Derived.Laws.MakeOwn
import Derived.Laws.Tables
import Derived.Laws.Rows
import Derived.Laws.CopyRow
import Derived.Laws.EntriesVeiled
import Derived.Below
import Derived.KernelRfl
/- Sx: a verified generator of verification conditions over the kit's Code.wp. Part A: symbolic values, heap states, their meaning. -/
set_option linter.unusedVariables false
set_option linter.unusedSimpArgs false
namespace Go.Sx
open Go

/-- Symbolic values: plain values; pointers and slices into boxes (blocks of the run's own, told by their number); closures over such. -/
inductive SV where
  | v (x : Value)
  | loc (i o : Nat)
  | sl (i o n c : Nat)
  | clo (f : Fn) (first caps : List SV)
  | agg (l : List SV)
  | tup (l : List SV)
  | ifc (t : TypeId) (x : SV)
  deriving Inhabited

mutual
def Den (β : List Nat) : SV → Value → Prop
  | .v x, y => y = x
  | .loc i o, y => ∃ b, β[i]? = some b ∧ y = .pointer (some ⟨b, o, none⟩)
  | .sl i o n c, y => ∃ b, β[i]? = some b ∧ y = .slice (some ⟨b, o, none⟩) n c
  | .clo f a c, y => ∃ xs ys, DenL β a xs ∧ DenL β c ys ∧ y = .func f xs.toArray ys.toArray
  | .agg l, y => ∃ xs, DenL β l xs ∧ y = .agg xs.toArray
  | .tup l, y => ∃ xs, DenL β l xs ∧ y = .tuple xs.toArray
  | .ifc t x, y => ∃ z, Den β x z ∧ y = .iface t z
def DenL (β : List Nat) : List SV → List Value → Prop
  | [], ys => ys = []
  | x :: r, ys => ∃ y zs, Den β x y ∧ DenL β r zs ∧ ys = y :: zs
end

mutual
theorem Den.mono {β β' : List Nat} (h : β <+: β') : ∀ (s : SV) (y : Value), Den β s y → Den β' s y
  | .v x, y, hd => hd
  | .loc i o, y, ⟨b, hb, hy⟩ => ⟨b, by obtain ⟨t, rfl⟩ := h; rw [List.getElem?_append_left (List.getElem?_eq_some_iff.1 hb).1]; exact hb, hy⟩
  | .sl i o n c, y, ⟨b, hb, hy⟩ => ⟨b, by obtain ⟨t, rfl⟩ := h; rw [List.getElem?_append_left (List.getElem?_eq_some_iff.1 hb).1]; exact hb, hy⟩
  | .clo f a c, y, ⟨xs, ys, h1, h2, hy⟩ => ⟨xs, ys, DenL.mono h a xs h1, DenL.mono h c ys h2, hy⟩
  | .agg l, y, ⟨xs, h1, hy⟩ => ⟨xs, DenL.mono h l xs h1, hy⟩
  | .tup l, y, ⟨xs, h1, hy⟩ => ⟨xs, DenL.mono h l xs h1, hy⟩
  | .ifc t x, y, ⟨z, h1, hy⟩ => ⟨z, Den.mono h x z h1, hy⟩
theorem DenL.mono {β β' : List Nat} (h : β <+: β') : ∀ (l : List SV) (ys : List Value), DenL β l ys → DenL β' l ys
  | [], ys, hd => hd
  | x :: r, ys, ⟨y, zs, h1, h2, hy⟩ => ⟨y, zs, Den.mono h x y h1, DenL.mono h r zs h2, hy⟩
end

theorem DenL.length {β : List Nat} : ∀ {l : List SV} {ys : List Value}, DenL β l ys → ys.length = l.length
  | [], _, h => by simp [DenL] at h; simp [h]
  | x :: r, _, h => by
    obtain ⟨y, zs, _, h2, rfl⟩ := h
    simp [DenL.length h2]
theorem DenL.get {β : List Nat} : ∀ {l : List SV} {ys : List Value}, DenL β l ys → ∀ {i : Nat} {s : SV}, l[i]? = some s → ∃ y, ys[i]? = some y ∧ Den β s y
  | [], _, _, i, s, hs => by simp at hs
  | x :: r, _, h, i, s, hs => by
    obtain ⟨y, zs, h1, h2, rfl⟩ := h
    cases i with
    | zero => simp at hs; subst hs; exact ⟨y, by simp, h1⟩
    | succ i => simp at hs; obtain ⟨z, hz, hd⟩ := DenL.get h2 hs; exact ⟨z, by simpa using hz, hd⟩
theorem DenL.append {β : List Nat} : ∀ {l l' : List SV} {ys ys' : List Value}, DenL β l ys → DenL β l' ys' → DenL β (l ++ l') (ys ++ ys')
  | [], _, _, _, h, h' => by simp [DenL] at h; subst h; simpa using h'
  | x :: r, _, _, _, h, h' => by
    obtain ⟨y, zs, h1, h2, rfl⟩ := h
    exact ⟨y, _, h1, DenL.append h2 h', by simp⟩
theorem DenL.take {β : List Nat} : ∀ {l : List SV} {ys : List Value} (n : Nat), DenL β l ys → DenL β (l.take n) (ys.take n)
  | _, _, 0, _ => by simp [DenL]
  | [], _, n + 1, h => by simp [DenL] at h; subst h; simp [DenL]
  | x :: r, _, n + 1, h => by
    obtain ⟨y, zs, h1, h2, rfl⟩ := h
    exact ⟨y, _, h1, DenL.take n h2, by simp⟩
theorem DenL.drop {β : List Nat} : ∀ {l : List SV} {ys : List Value} (n : Nat), DenL β l ys → DenL β (l.drop n) (ys.drop n)
  | _, _, 0, h => by simpa using h
  | [], _, n + 1, h => by simp [DenL] at h; subst h; simp [DenL]
  | x :: r, _, n + 1, h => by
    obtain ⟨y, zs, h1, h2, rfl⟩ := h
    simpa using DenL.drop n h2
theorem DenL.plain (β : List Nat) : ∀ (l : List Value), DenL β (l.map .v) l
  | [] => rfl
  | x :: r => ⟨x, r, rfl, DenL.plain β r, rfl⟩

/-- May it stand in one cell? -/
def one : SV → Bool
  | .v x => x.oneCell'
  | .agg _ | .tup _ => false
  | _ => true
theorem one_cell {β : List Nat} {s : SV} {y : Value} (h : one s = true) (hd : Den β s y) : y.oneCell' = true := by
  cases s <;> simp only [one, Den, Bool.false_eq_true] at h hd
  case v => subst hd; exact h
  case loc => obtain ⟨b, _, rfl⟩ := hd; rfl
  case sl => obtain ⟨b, _, rfl⟩ := hd; rfl
  case clo => obtain ⟨_, _, _, _, rfl⟩ := hd; rfl
  case ifc => obtain ⟨_, _, rfl⟩ := hd; rfl
def ones : List SV → Bool
  | [] => true
  | x :: r => match one x with | true => ones r | false => false
theorem ones_cell {β : List Nat} : ∀ {l : List SV} {ys : List Value}, ones l = true → DenL β l ys → ∀ v ∈ ys, v.oneCell' = true
  | [], _, _, h => by simp [DenL] at h; subst h; simp
  | x :: r, _, h, hd => by
    obtain ⟨y, zs, h1, h2, rfl⟩ := hd
    simp only [ones] at h
    split at h
    · rename_i hx
      intro v hv
      rcases List.mem_cons.1 hv with rfl | hv
      · exact one_cell hx h1
      · exact ones_cell h h2 v hv
    · cases h

/-- A value of the text as a symbolic one. -/
def ofVal : Value → SV
  | .agg cs => .agg (cs.toList.map .v)
  | .tuple cs => .tup (cs.toList.map .v)
  | .func f a c => .clo f (a.toList.map .v) (c.toList.map .v)
  | x => .v x
theorem den_ofVal (β : List Nat) (x : Value) : Den β (ofVal x) x := by
  cases x <;> first
    | rfl
    | exact ⟨_, DenL.plain _ _, by simp⟩
    | exact ⟨_, _, DenL.plain _ _, DenL.plain _ _, by simp⟩
/-- The cells of a value. -/
def cells : SV → List SV
  | .agg l => l
  | .v (.agg cs) => cs.toList.map .v
  | s => [s]
theorem den_cells {β : List Nat} {s : SV} {y : Value} (h : Den β s y) : DenL β (cells s) y.cells.toList := by
  unfold cells
  split
  · obtain ⟨xs, h1, rfl⟩ := h; simpa [Value.cells] using h1
  · simp only [Den] at h; subst h; simpa [Value.cells] using DenL.plain _ _
  · rename_i h1 h2
    have : y.cells.toList = [y] := by
      cases s <;> simp only [Den] at h
      case v x => subst h; cases y <;> first | rfl | (exact absurd rfl (h2 _))
      case loc => obtain ⟨b, _, rfl⟩ := h; rfl
      case sl => obtain ⟨b, _, rfl⟩ := h; rfl
      case clo => obtain ⟨_, _, _, _, rfl⟩ := h; rfl
      case agg l => exact absurd rfl (h1 l)
      case tup => obtain ⟨_, _, rfl⟩ := h; rfl
      case ifc => obtain ⟨_, _, rfl⟩ := h; rfl
    rw [this]
    exact ⟨y, [], h, rfl, rfl⟩

/-- A slice of the run's own, whose block may be appended to and written: its value, its elements' type and size, how many, their cells. -/
structure Row where
  v : Value
  e : TypeId
  size : Nat
  n : Nat
  xs : List Value
/-- What is known of memory: boxes; rows; cells that nobody will write. -/
structure Hp where
  nb : Nat
  boxes : List (List SV)
  rows : List Row
  g : Addr → Option Value

def owned (β : List Nat) (H : Hp) : List Nat := β ++ H.rows.filterMap (·.v.ownBlock)

structure Rep (β : List Nat) (H : Hp) (w : World) : Prop where
  len : β.length = H.boxes.length
  nb : H.nb = H.boxes.length
  box : ∀ (i : Nat) (cs : List SV) (b : Nat), H.boxes[i]? = some cs → β[i]? = some b → ∃ xs t, DenL β cs xs ∧ w.heap[b]? = some (Obj.cells xs.toArray t (0, 0))
  row : ∀ r ∈ H.rows, w.ownsRow 0 r.e r.size r.v r.n r.xs
  nd : (owned β H).Nodup
  g : ∀ a v, H.g a = some v → w.cell? a = some v ∧ a.block ∉ owned β H

/-- From w to w' nothing was written but blocks of O, and new ones. -/
structure Fr (O : List Nat) (w w' : World) : Prop where
  os : w'.os = w.os
  tape : w'.tape = w.tape
  output : w'.output = w.output
  size : w.heap.size ≤ w'.heap.size
  block : ∀ k, k < w.heap.size → k ∉ O → w'.heap[k]? = w.heap[k]?
theorem Fr.refl (O : List Nat) (w : World) : Fr O w w := ⟨rfl, rfl, rfl, Nat.le_refl _, fun _ _ _ => rfl⟩

/-- How a state stands to an earlier one. -/
structure Ext (β : List Nat) (H : Hp) (w : World) (β' : List Nat) (H' : Hp) (w' : World) : Prop where
  pre : β <+: β'
  fr : Fr (owned β H) w w'
  own : ∀ b ∈ owned β' H', b ∈ owned β H ∨ w.heap.size ≤ b
  g : ∀ a v, H.g a = some v → H'.g a = some v
  gn : ∀ a v, H'.g a = some v → H.g a = some v ∨ a.block ∈ owned β H ∨ w.heap.size ≤ a.block
theorem Ext.refl (β : List Nat) (H : Hp) (w : World) : Ext β H w β H w := ⟨List.prefix_refl _, Fr.refl _ _, fun _ h => .inl h, fun _ _ h => h, fun _ _ h => .inl h⟩
theorem Ext.trans {β : List Nat} {H : Hp} {w : World} {β' : List Nat} {H' : Hp} {w' : World} {β'' : List Nat} {H'' : Hp} {w'' : World}
    (h : Ext β H w β' H' w') (k : Ext β' H' w' β'' H'' w'') : Ext β H w β'' H'' w'' where
  pre := h.pre.trans k.pre
  fr := ⟨k.fr.os.trans h.fr.os, k.fr.tape.trans h.fr.tape, k.fr.output.trans h.fr.output, Nat.le_trans h.fr.size k.fr.size, fun b hb hn =>
    (k.fr.block b (Nat.lt_of_lt_of_le hb h.fr.size) (fun hm => by
      rcases h.own b hm with h1 | h1
      · exact hn h1
      · omega)).trans (h.fr.block b hb hn)⟩
  own := fun b hb => by
    rcases k.own b hb with h1 | h1
    · exact h.own b h1
    · exact .inr (Nat.le_trans h.fr.size h1)
  g := fun a v hg => k.g a v (h.g a v hg)
  gn := fun a v hg => by
    rcases k.gn a v hg with h1 | h1 | h1
    · exact h.gn a v h1
    · exact .inr (h.own _ h1)
    · exact .inr (.inr (Nat.le_trans h.fr.size h1))

theorem Rep.blt {β : List Nat} {H : Hp} {w : World} (R : Rep β H w) : ∀ b ∈ owned β H, b < w.heap.size := by
  intro b hb
  rcases List.mem_append.1 hb with h | h
  · obtain ⟨i, hi, rfl⟩ := List.mem_iff_getElem.1 h
    have hlt : i < H.boxes.length := R.len ▸ hi
    obtain ⟨xs, t, _, hh⟩ := R.box i H.boxes[i] β[i] (List.getElem?_eq_getElem hlt) (List.getElem?_eq_getElem hi)
    exact (Array.getElem?_eq_some_iff.1 hh).1
  · obtain ⟨r, hr, hb⟩ := List.mem_filterMap.1 h
    exact ((R.row r hr).lt b hb).2

/-! ### The temporaries -/
abbrev Env := List (Nat × SV)
def get : Env → Nat → Option SV
  | [], _ => none
  | (u, s) :: r, t => match Nat.beq u t with | true => some s | false => get r t
structure RepA (n : Nat) (D : List Deferred) (β : List Nat) (E : Env) (H : Hp) (a : Act) (w : World) : Prop where
  rep : Rep β H w
  size : a.tmps.size = n
  defers : a.defers = D
  env : ∀ (t : Nat) (s : SV), get E t = some s → ∃ x, a.tmps[t]? = some x ∧ Den β s x

def ev (E : Env) : Operand → Option SV
  | .tmp t => get E t
  | .const x => some (ofVal x)
  | .global g => some (.v (.pointer (some ⟨g, 0, none⟩)))
  | .func f => some (.clo (.func f) [] [])
theorem ev_den {n : Nat} {D : List Deferred} {β : List Nat} {E : Env} {H : Hp} {a : Act} {w : World} (R : RepA n D β E H a w) {x : Operand} {s : SV}
    (h : ev E x = some s) : Den β s (a.eval x) := by
  cases x with
  | tmp t =>
    obtain ⟨y, hy, hd⟩ := R.env t s h
    have : a.eval (.tmp t) = y := by simp [Act.eval, hy]
    rw [this]; exact hd
  | const x => simp [ev] at h; subst h; exact den_ofVal _ _
  | global g => simp [ev] at h; subst h; rfl
  | func f => simp [ev] at h; subst h; exact ⟨[], [], rfl, rfl, rfl⟩
def evs (E : Env) : List Operand → Option (List SV)
  | [] => some []
  | x :: r => match ev E x with
    | some s => match evs E r with
      | some l => some (s :: l)
      | none => none
    | none => none
theorem evs_den {n : Nat} {D : List Deferred} {β : List Nat} {E : Env} {H : Hp} {a : Act} {w : World} (R : RepA n D β E H a w) : ∀ {l : List Operand} {ss : List SV},
    evs E l = some ss → DenL β ss (l.map a.eval)
  | [], _, h => by simp [evs] at h; subst h; rfl
  | x :: r, _, h => by
    simp only [evs] at h
    split at h
    · rename_i s hs
      split at h
      · rename_i l hl
        injection h with h; subst h
        exact ⟨_, _, ev_den R hs, evs_den R hl, rfl⟩
      · cases h
    · cases h

/-- A temporary is set. -/
def put (n : Nat) (d : Option Nat) (s : SV) (E : Env) (k : Env → Prop) : Prop :=
  match d with
  | none => k E
  | some d => match Nat.ble (d + 1) n with
    | true => k ((d, s) :: E)
    | false => False

theorem RepA.put {n : Nat} {D : List Deferred} {β : List Nat} {E : Env} {H : Hp} {a : Act} {w : World} {β' : List Nat} {H' : Hp} {w' : World} (R : RepA n D β E H a w)
    (R' : Rep β' H' w') (X : Ext β H w β' H' w') {d : Option Nat} {s : SV} {x : Value} (hs : Den β' s x) {k : Env → Prop} (h : Sx.put n d s E k) :
    ∃ E', k E' ∧ RepA n D β' E' H' (a.put d x) w' := by
  cases d with
  | none => exact ⟨E, h, R', R.size, R.defers, fun t s ht => let ⟨x, hx, hd⟩ := R.env t s ht; ⟨x, hx, Den.mono X.pre _ _ hd⟩⟩
  | some d =>
    simp only [Sx.put] at h
    split at h
    · rename_i hlt
      have hlt : d < n := by have := Nat.le_of_ble_eq_true hlt; omega
      refine ⟨_, h, R', by simp [Act.put, R.size], R.defers, fun t s' ht => ?_⟩
      simp only [get] at ht
      split at ht
      · rename_i hb
        injection ht with ht; subst ht
        have hb := Nat.eq_of_beq_eq_true hb
        subst hb
        exact ⟨x, by simp [Act.put, R.size, hlt], hs⟩
      · rename_i hb
        have hb := Nat.ne_of_beq_eq_false hb
        obtain ⟨y, hy, hd⟩ := R.env t s' ht
        exact ⟨y, by simp only [Act.put, Array.getElem?_setIfInBounds]; rw [if_neg hb]; exact hy, Den.mono X.pre _ _ hd⟩
    · exact h.elim

end Go.Sx
