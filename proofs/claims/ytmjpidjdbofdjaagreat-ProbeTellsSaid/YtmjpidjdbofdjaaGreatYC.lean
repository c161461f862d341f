import Derived.Tactics
import Derived.WalkKit
import Derived.Laws.AppendOwn
import Derived.Laws.OwnMore
import Derived.Laws.MakeOwn
import Derived.Laws.Tables
import Derived.Laws.Rows
import Derived.Laws.CopyRow
import Derived.Laws.EntriesVeiled
import Derived.Below
import Derived.KernelRfl
import Derived.RangeFuncLeaves
import Derived.OrdersIn
import Derived.WideShapes
/- Sy, parts A to C: symbolic values, states; what an operation does to a state; operations on numbers and texts. -/
set_option linter.unusedVariables false
set_option linter.unusedSimpArgs false
/- Sy: a verified generator of verification conditions over the kit's walk of code. Part A: symbolic values, heap states, their meaning. -/
namespace Go.Sy
open Go

/-- Symbolic values: plain values; pointers into boxes (blocks of the run's own, told by their number); closures; structs; slices whose cells nobody writes any more ('lst'), pointers into such; slices of a row that is being made ('own'), pointers into such; what a loop over a function is called back by. -/
inductive SV where
  | v (x : Value)
  | loc (i o : Nat)
  | clo (f : Fn) (first caps : List SV)
  | agg (l : List SV)
  | tup (l : List SV)
  | ifc (t : TypeId) (x : SV)
  | lst (full : Bool) (sz : Nat) (es : List SV)
  | ro (cs : List SV) (o : Nat)
  | own (ri : Nat) (A : Option Addr) (n c : Nat)
  | optr (ri : Nat) (a : Addr) (o : Nat)
  | yld (i : Nat)
  | mref (i : Nat)
  deriving Inhabited

/-- What is known of memory: where the boxes lie; cells that nobody will write. -/
structure Gh where
  b : List Nat
  g : Addr → Option Value
def Gle (β β' : Gh) : Prop := β.b <+: β'.b ∧ ∀ a v, β.g a = some v → β'.g a = some v
theorem Gle.refl (β : Gh) : Gle β β := ⟨List.prefix_refl _, fun _ _ h => h⟩
theorem Gle.trans {β β' β'' : Gh} (h : Gle β β') (k : Gle β' β'') : Gle β β'' := ⟨h.1.trans k.1, fun a v hg => k.2 a v (h.2 a v hg)⟩
theorem Gle.at {β β' : Gh} (h : Gle β β') {i b : Nat} (hb : β.b[i]? = some b) : β'.b[i]? = some b := by
  obtain ⟨t, ht⟩ := h.1
  rw [← ht, List.getElem?_append_left (List.getElem?_eq_some_iff.1 hb).1]; exact hb

/-- The cells of values, side by side. -/
def cellsL (ws : List Value) : List Value := ws.flatMap (·.cells.toList)
/-- A slice whose cells nobody writes: where it lies, and what its elements are. -/
structure SlOk (g : Addr → Option Value) (full : Bool) (sz : Nat) (A : Option Addr) (n c : Nat) (ws : List Value) : Prop where
  len : ws.length = n
  le : n ≤ c
  mx : c ≤ maxLen
  nil : A = none → n = 0 ∧ c = 0
  full : full = true → c = n
  sz : ∀ w ∈ ws, w.cells.size = sz
  one : ∀ u ∈ cellsL ws, u.oneCell' = true
  mem : ∀ a, A = some a → ∀ (j : Nat) (u : Value), (cellsL ws)[j]? = some u → g (a.add j) = some u
theorem SlOk.mono {g g' : Addr → Option Value} (h : ∀ a v, g a = some v → g' a = some v) {full : Bool} {sz : Nat} {A : Option Addr} {n c : Nat} {ws : List Value} (k : SlOk g full sz A n c ws) : SlOk g' full sz A n c ws :=
  ⟨k.len, k.le, k.mx, k.nil, k.full, k.sz, k.one, fun a ha j u hu => h _ _ (k.mem a ha j u hu)⟩

mutual
def Den (β : Gh) : SV → Value → Prop
  | .v x, y => y = x
  | .loc i o, y => ∃ b, β.b[i]? = some b ∧ y = .pointer (some ⟨b, o, none⟩)
  | .clo f a c, y => ∃ xs ys, DenL β a xs ∧ DenL β c ys ∧ y = .func f xs.toArray ys.toArray
  | .agg l, y => ∃ xs, DenL β l xs ∧ y = .agg xs.toArray
  | .tup l, y => ∃ xs, DenL β l xs ∧ y = .tuple xs.toArray
  | .ifc t x, y => ∃ z, Den β x z ∧ y = .iface t z
  | .lst full sz es, y => ∃ A n c ws, DenL β es ws ∧ SlOk β.g full sz A n c ws ∧ y = .slice A n c
  | .ro cs o, y => ∃ a ws, DenL β cs ws ∧ (∀ (j : Nat) (u : Value), ws[j]? = some u → β.g (Addr.add a j) = some u) ∧ y = .pointer (some (a.add o))
  | .own _ A n c, y => y = .slice A n c
  | .optr _ a o, y => y = .pointer (some (a.add o))
  | .yld i, y => ∃ b, β.b[i]? = some b ∧ y = .func (.yield b) #[] #[]
  | .mref i, y => ∃ b, β.b[i]? = some b ∧ y = .map (some b)
def DenL (β : Gh) : List SV → List Value → Prop
  | [], ys => ys = []
  | x :: r, ys => ∃ y zs, Den β x y ∧ DenL β r zs ∧ ys = y :: zs
end

mutual
theorem Den.mono {β β' : Gh} (h : Gle β β') : ∀ (s : SV) (y : Value), Den β s y → Den β' s y
  | .v x, y, hd => hd
  | .loc i o, y, ⟨b, hb, hy⟩ => ⟨b, h.at hb, hy⟩
  | .clo f a c, y, ⟨xs, ys, h1, h2, hy⟩ => ⟨xs, ys, DenL.mono h a xs h1, DenL.mono h c ys h2, hy⟩
  | .agg l, y, ⟨xs, h1, hy⟩ => ⟨xs, DenL.mono h l xs h1, hy⟩
  | .tup l, y, ⟨xs, h1, hy⟩ => ⟨xs, DenL.mono h l xs h1, hy⟩
  | .ifc t x, y, ⟨z, h1, hy⟩ => ⟨z, Den.mono h x z h1, hy⟩
  | .lst _ _ es, y, ⟨A, n, c, ws, h1, h2, hy⟩ => ⟨A, n, c, ws, DenL.mono h es ws h1, h2.mono h.2, hy⟩
  | .ro cs o, y, ⟨a, ws, h1, h2, hy⟩ => ⟨a, ws, DenL.mono h cs ws h1, fun j u hu => h.2 _ _ (h2 j u hu), hy⟩
  | .own _ _ _ _, y, hd => hd
  | .optr _ _ _, y, hd => hd
  | .yld i, y, ⟨b, hb, hy⟩ => ⟨b, h.at hb, hy⟩
  | .mref i, y, ⟨b, hb, hy⟩ => ⟨b, h.at hb, hy⟩
theorem DenL.mono {β β' : Gh} (h : Gle β β') : ∀ (l : List SV) (ys : List Value), DenL β l ys → DenL β' l ys
  | [], ys, hd => hd
  | x :: r, ys, ⟨y, zs, h1, h2, hy⟩ => ⟨y, zs, Den.mono h x y h1, DenL.mono h r zs h2, hy⟩
end

theorem DenL.length {β : Gh} : ∀ {l : List SV} {ys : List Value}, DenL β l ys → ys.length = l.length
  | [], _, h => by simp [DenL] at h; simp [h]
  | x :: r, _, h => by
    obtain ⟨y, zs, _, h2, rfl⟩ := h
    simp [DenL.length h2]
theorem DenL.get {β : Gh} : ∀ {l : List SV} {ys : List Value}, DenL β l ys → ∀ {i : Nat} {s : SV}, l[i]? = some s → ∃ y, ys[i]? = some y ∧ Den β s y
  | [], _, _, i, s, hs => by simp at hs
  | x :: r, _, h, i, s, hs => by
    obtain ⟨y, zs, h1, h2, rfl⟩ := h
    cases i with
    | zero => simp at hs; subst hs; exact ⟨y, by simp, h1⟩
    | succ i => simp at hs; obtain ⟨z, hz, hd⟩ := DenL.get h2 hs; exact ⟨z, by simpa using hz, hd⟩
theorem DenL.append {β : Gh} : ∀ {l l' : List SV} {ys ys' : List Value}, DenL β l ys → DenL β l' ys' → DenL β (l ++ l') (ys ++ ys')
  | [], _, _, _, h, h' => by simp [DenL] at h; subst h; simpa using h'
  | x :: r, _, _, _, h, h' => by
    obtain ⟨y, zs, h1, h2, rfl⟩ := h
    exact ⟨y, _, h1, DenL.append h2 h', by simp⟩
theorem DenL.take {β : Gh} : ∀ {l : List SV} {ys : List Value} (n : Nat), DenL β l ys → DenL β (l.take n) (ys.take n)
  | _, _, 0, _ => by simp [DenL]
  | [], _, n + 1, h => by simp [DenL] at h; subst h; simp [DenL]
  | x :: r, _, n + 1, h => by
    obtain ⟨y, zs, h1, h2, rfl⟩ := h
    exact ⟨y, _, h1, DenL.take n h2, by simp⟩
theorem DenL.drop {β : Gh} : ∀ {l : List SV} {ys : List Value} (n : Nat), DenL β l ys → DenL β (l.drop n) (ys.drop n)
  | _, _, 0, h => by simpa using h
  | [], _, n + 1, h => by simp [DenL] at h; subst h; simp [DenL]
  | x :: r, _, n + 1, h => by
    obtain ⟨y, zs, h1, h2, rfl⟩ := h
    simpa using DenL.drop n h2
theorem DenL.set {β : Gh} : ∀ {l : List SV} {ys : List Value} (i : Nat) {s : SV} {y : Value}, DenL β l ys → Den β s y → DenL β (l.set i s) (ys.set i y)
  | [], _, _, _, _, h, _ => by simp [DenL] at h; subst h; simp [DenL]
  | x :: r, _, 0, _, _, h, hd => by
    obtain ⟨y, zs, h1, h2, rfl⟩ := h
    exact ⟨_, _, hd, h2, rfl⟩
  | x :: r, _, i + 1, _, _, h, hd => by
    obtain ⟨y, zs, h1, h2, rfl⟩ := h
    exact ⟨_, _, h1, DenL.set i h2 hd, rfl⟩
theorem DenL.plain (β : Gh) : ∀ (l : List Value), DenL β (l.map .v) l
  | [] => rfl
  | x :: r => ⟨x, r, rfl, DenL.plain β r, rfl⟩

/-- May it stand in one cell? -/
def one : SV → Bool
  | .v x => x.oneCell'
  | .agg _ | .tup _ => false
  | _ => true
theorem one_cell {β : Gh} {s : SV} {y : Value} (h : one s = true) (hd : Den β s y) : y.oneCell' = true := by
  cases s <;> simp only [one, Den, Bool.false_eq_true] at h hd
  case v => subst hd; exact h
  case loc => obtain ⟨b, _, rfl⟩ := hd; rfl
  case clo => obtain ⟨_, _, _, _, rfl⟩ := hd; rfl
  case ifc => obtain ⟨_, _, rfl⟩ := hd; rfl
  case lst => obtain ⟨_, _, _, _, _, _, rfl⟩ := hd; rfl
  case ro => obtain ⟨_, _, _, _, rfl⟩ := hd; rfl
  case own => subst hd; rfl
  case optr => subst hd; rfl
  case yld => obtain ⟨_, _, rfl⟩ := hd; rfl
  case mref => obtain ⟨_, _, rfl⟩ := hd; rfl
def ones : List SV → Bool
  | [] => true
  | x :: r => match one x with | true => ones r | false => false
theorem ones_cell {β : Gh} : ∀ {l : List SV} {ys : List Value}, ones l = true → DenL β l ys → ∀ v ∈ ys, v.oneCell' = true
  | [], _, _, h => by simp [DenL] at h; subst h; simp
  | x :: r, _, h, hd => by
    obtain ⟨y, zs, h1, h2, rfl⟩ := hd
    simp only [ones] at h
    split at h
    · rename_i hx
      intro v hv
      rcases List.mem_cons.1 hv with rfl | hv
      · exact one_cell hx h1
      · exact ones_cell h h2 v hv
    · cases h

/-- A value of the text as a symbolic one. -/
def ofVal : Value → SV
  | .agg cs => .agg (cs.toList.map .v)
  | .tuple cs => .tup (cs.toList.map .v)
  | .func f a c => .clo f (a.toList.map .v) (c.toList.map .v)
  | x => .v x
theorem den_ofVal (β : Gh) (x : Value) : Den β (ofVal x) x := by
  cases x <;> first
    | rfl
    | exact ⟨_, DenL.plain _ _, by simp⟩
    | exact ⟨_, _, DenL.plain _ _, DenL.plain _ _, by simp⟩
/-- The cells of a value. -/
def cells : SV → List SV
  | .agg l => l
  | .v (.agg cs) => cs.toList.map .v
  | s => [s]
theorem den_cells {β : Gh} {s : SV} {y : Value} (h : Den β s y) : DenL β (cells s) y.cells.toList := by
  unfold cells
  split
  · obtain ⟨xs, h1, rfl⟩ := h; simpa [Value.cells] using h1
  · simp only [Den] at h; subst h; simpa [Value.cells] using DenL.plain _ _
  · rename_i h1 h2
    have : y.cells.toList = [y] := by
      cases s <;> simp only [Den] at h
      case v x => subst h; cases y <;> first | rfl | (exact absurd rfl (h2 _))
      case loc => obtain ⟨b, _, rfl⟩ := h; rfl
      case clo => obtain ⟨_, _, _, _, rfl⟩ := h; rfl
      case agg l => exact absurd rfl (h1 l)
      case tup => obtain ⟨_, _, rfl⟩ := h; rfl
      case ifc => obtain ⟨_, _, rfl⟩ := h; rfl
      case lst => obtain ⟨_, _, _, _, _, _, rfl⟩ := h; rfl
      case ro => obtain ⟨_, _, _, _, rfl⟩ := h; rfl
      case own => subst h; rfl
      case optr => subst h; rfl
      case yld => obtain ⟨_, _, rfl⟩ := h; rfl
      case mref => obtain ⟨_, _, rfl⟩ := h; rfl
    rw [this]
    exact ⟨y, [], h, rfl, rfl⟩

/-- The temporaries that are known; the calls that are deferred. -/
structure Env where
  ts : List (Nat × SV)
  ds : List SV
def get : List (Nat × SV) → Nat → Option SV
  | [], _ => none
  | (u, s) :: r, t => match Nat.beq u t with | true => some s | false => get r t

/-- A loop over a function that is on its way. -/
structure LoopS where
  st : LoopState
  pend : Option Code
  n : Nat
  E : List (Nat × SV)
  ps : Array Tmp
  asg : Code
  body : Code
/-- What a box holds. -/
inductive Bx where
  | c (cs : List SV)
  | lp (L : LoopS)
  | df
  | mp (kvs : List (Value × SV))
  | gone
/-- A slice of the run's own: its block may be appended to and written, till it is handed over ('fro'). -/
structure Row where
  A : Option Addr
  n : Nat
  c : Nat
  e : TypeId
  sz : Nat
  es : List SV
  fro : Bool
structure Hp where
  nb : Nat
  boxes : List Bx
  rows : List Row

def DenM (β : Gh) : List (Value × SV) → List MapEntry → Prop
  | [], es => es = []
  | (k, s) :: r, es => ∃ e zs, e.key = k ∧ Den β s e.val ∧ DenM β r zs ∧ es = e :: zs
theorem DenM.mono {β β' : Gh} (h : Gle β β') : ∀ {l : List (Value × SV)} {es : List MapEntry}, DenM β l es → DenM β' l es
  | [], _, hd => hd
  | (k, s) :: r, _, ⟨e, zs, h1, h2, h3, h4⟩ => ⟨e, zs, h1, Den.mono h _ _ h2, DenM.mono h h3, h4⟩
def EnvOk (β : Gh) (E : List (Nat × SV)) (tmps : Array Value) : Prop := ∀ (t : Nat) (s : SV), get E t = some s → ∃ x, tmps[t]? = some x ∧ Den β s x
theorem EnvOk.mono {β β' : Gh} (h : Gle β β') {E : List (Nat × SV)} {tmps : Array Value} (k : EnvOk β E tmps) : EnvOk β' E tmps := fun t s ht => let ⟨x, h1, h2⟩ := k t s ht; ⟨x, h1, Den.mono h _ _ h2⟩
def BxOk (β : Gh) (w : World) (b : Nat) : Bx → Prop
  | .c cs => ∃ xs t, DenL β cs xs ∧ w.heap[b]? = some (Obj.cells xs.toArray t (0, 0))
  | .lp L => ∃ r : Loop, w.heap[b]? = some (Obj.loop r) ∧ r.state = L.st ∧ r.pending = L.pend ∧ r.params = L.ps ∧ r.assign = L.asg ∧ r.body = L.body ∧ r.tmps.size = L.n ∧ EnvOk β L.E r.tmps
  | .df => w.heap[b]? = some (Obj.deferred (some []))
  | .mp kvs => ∃ es ck, w.heap[b]? = some (Obj.map es ck) ∧ DenM β kvs es.toList
  | .gone => b < w.heap.size
theorem BxOk.lt {β : Gh} {w : World} {b : Nat} {x : Bx} (h : BxOk β w b x) : b < w.heap.size := by
  cases x with
  | c cs => obtain ⟨_, _, _, h⟩ := h; exact (Array.getElem?_eq_some_iff.1 h).1
  | lp L => obtain ⟨_, h, _⟩ := h; exact (Array.getElem?_eq_some_iff.1 h).1
  | df => exact (Array.getElem?_eq_some_iff.1 h).1
  | mp kvs => obtain ⟨_, _, h, _⟩ := h; exact (Array.getElem?_eq_some_iff.1 h).1
  | gone => exact h
theorem BxOk.mono {β β' : Gh} {w w' : World} {b : Nat} {x : Bx} (h : BxOk β w b x) (hg : Gle β β') (hs : w.heap.size ≤ w'.heap.size) (hb : w'.heap[b]? = w.heap[b]?) : BxOk β' w' b x := by
  cases x with
  | c cs => obtain ⟨xs, t, h1, h2⟩ := h; exact ⟨xs, t, DenL.mono hg _ _ h1, by rw [hb]; exact h2⟩
  | lp L => obtain ⟨r, h1, h2, h3, h4, h5, h6, h7, h8⟩ := h; exact ⟨r, by rw [hb]; exact h1, h2, h3, h4, h5, h6, h7, h8.mono hg⟩
  | df => exact hb.trans h
  | mp kvs => obtain ⟨es, ck, h1, h2⟩ := h; exact ⟨es, ck, by rw [hb]; exact h1, h2.mono hg⟩
  | gone => exact Nat.lt_of_lt_of_le h hs

/-- The block of a row that may still be written. -/
def Row.blk (r : Row) : Option Nat := match r.fro with | true => none | false => r.A.map (·.block)
def owned (β : Gh) (H : Hp) : List Nat := β.b ++ H.rows.filterMap Row.blk
def RowOk (β : Gh) (w : World) (r : Row) : Prop :=
  ∃ ws, DenL β r.es ws ∧ (∀ u ∈ ws, u.cells.size = r.sz) ∧ ws.length = r.n ∧
    match r.fro with
    | true => SlOk β.g false r.sz r.A r.n r.c ws
    | false => w.ownsRow 0 r.e r.sz (.slice r.A r.n r.c) r.n (cellsL ws) ∧ ∀ u ∈ cellsL ws, u.oneCell' = true

structure Rep (β : Gh) (H : Hp) (w : World) : Prop where
  len : β.b.length = H.boxes.length
  nb : H.nb = H.boxes.length
  box : ∀ (i : Nat) (x : Bx) (b : Nat), H.boxes[i]? = some x → β.b[i]? = some b → BxOk β w b x
  row : ∀ r ∈ H.rows, RowOk β w r
  nd : (owned β H).Nodup
  g : ∀ a v, β.g a = some v → w.cell? a = some v ∧ a.block ∉ owned β H

/-- From w to w' nothing was written but blocks of O, and new ones. -/
structure Fr (O : List Nat) (w w' : World) : Prop where
  os : w'.os = w.os
  tape : w'.tape = w.tape
  output : w'.output = w.output
  size : w.heap.size ≤ w'.heap.size
  block : ∀ k, k < w.heap.size → k ∉ O → w'.heap[k]? = w.heap[k]?
theorem Fr.refl (O : List Nat) (w : World) : Fr O w w := ⟨rfl, rfl, rfl, Nat.le_refl _, fun _ _ _ => rfl⟩

/-- How a state stands to an earlier one. -/
structure Ext (β : Gh) (H : Hp) (w : World) (β' : Gh) (H' : Hp) (w' : World) : Prop where
  pre : Gle β β'
  fr : Fr (owned β H) w w'
  own : ∀ b ∈ owned β' H', b ∈ owned β H ∨ w.heap.size ≤ b
  gn : ∀ a v, β'.g a = some v → β.g a = some v ∨ a.block ∈ owned β H ∨ w.heap.size ≤ a.block
theorem Ext.refl (β : Gh) (H : Hp) (w : World) : Ext β H w β H w := ⟨Gle.refl _, Fr.refl _ _, fun _ h => .inl h, fun _ _ h => .inl h⟩
theorem Ext.trans {β : Gh} {H : Hp} {w : World} {β' : Gh} {H' : Hp} {w' : World} {β'' : Gh} {H'' : Hp} {w'' : World}
    (h : Ext β H w β' H' w') (k : Ext β' H' w' β'' H'' w'') : Ext β H w β'' H'' w'' where
  pre := h.pre.trans k.pre
  fr := ⟨k.fr.os.trans h.fr.os, k.fr.tape.trans h.fr.tape, k.fr.output.trans h.fr.output, Nat.le_trans h.fr.size k.fr.size, fun b hb hn =>
    (k.fr.block b (Nat.lt_of_lt_of_le hb h.fr.size) (fun hm => by
      rcases h.own b hm with h1 | h1
      · exact hn h1
      · omega)).trans (h.fr.block b hb hn)⟩
  own := fun b hb => by
    rcases k.own b hb with h1 | h1
    · exact h.own b h1
    · exact .inr (Nat.le_trans h.fr.size h1)
  gn := fun a v hg => by
    rcases k.gn a v hg with h1 | h1 | h1
    · exact h.gn a v h1
    · exact .inr (h.own _ h1)
    · exact .inr (.inr (Nat.le_trans h.fr.size h1))

theorem RowOk.lt {β : Gh} {w : World} {r : Row} (h : RowOk β w r) {b : Nat} (hb : r.blk = some b) : b < w.heap.size := by
  obtain ⟨ws, _, _, _, h⟩ := h
  unfold Row.blk at hb
  cases hf : r.fro with
  | true => rw [hf] at hb; cases hb
  | false =>
    rw [hf] at hb h
    refine (h.1.lt b ?_).2
    simp only at hb
    cases hA : r.A with
    | none => rw [hA] at hb; cases hb
    | some a => rw [hA] at hb; simpa [Value.ownBlock] using hb
theorem Rep.blt {β : Gh} {H : Hp} {w : World} (R : Rep β H w) : ∀ b ∈ owned β H, b < w.heap.size := by
  intro b hb
  rcases List.mem_append.1 hb with h | h
  · obtain ⟨i, hi, rfl⟩ := List.mem_iff_getElem.1 h
    have hlt : i < H.boxes.length := R.len ▸ hi
    exact (R.box i H.boxes[i] β.b[i] (List.getElem?_eq_getElem hlt) (List.getElem?_eq_getElem hi)).lt
  · obtain ⟨r, hr, hb⟩ := List.mem_filterMap.1 h
    exact (R.row r hr).lt hb
/-- A row, carried to a world in which its block is as it was. -/
theorem RowOk.mono {β β' : Gh} {w w' : World} {r : Row} (h : RowOk β w r) (hg : Gle β β') (hs : w.heap.size ≤ w'.heap.size) (hb : ∀ b, r.blk = some b → w'.heap[b]? = w.heap[b]?) : RowOk β' w' r := by
  obtain ⟨ws, h1, h2, h3, h4⟩ := h
  refine ⟨ws, DenL.mono hg _ _ h1, h2, h3, ?_⟩
  cases hf : r.fro with
  | true => rw [hf] at h4; exact h4.mono hg.2
  | false =>
    rw [hf] at h4
    obtain ⟨⟨h5, h6⟩, h7⟩ := h4
    refine ⟨⟨h5, ?_⟩, h7⟩
    rcases h6 with h6 | ⟨g, cap, cur, e1, h8, h9, h10⟩
    · exact .inl h6
    · refine .inr ⟨g, cap, cur, e1, h8, ?_, h10⟩
      rw [hb g (by simp only [Row.blk, hf]; injection e1 with e2; rw [e2]; rfl)]; exact h9

/-! ### The calls that are deferred; marks of loops over functions among them -/
def markOf (m : Nat) : Deferred := { target := .collected m, args := #[] }
def DenD (β : Gh) : SV → Deferred → Prop
  | .clo f a c, d => ∃ xs ys, DenL β a xs ∧ DenL β c ys ∧ d = { target := .fn f ys.toArray, args := xs.toArray }
  | _, _ => False
def DefOk (b0 : Nat) (β : Gh) (O : List Nat) (w : World) : List SV → List Deferred → Prop
  | ds, [] => ds = [] ∧ b0 ≤ w.heap.size
  | ds, d :: r => (∃ m, d = markOf m ∧ b0 ≤ m ∧ m ∉ O ∧ w.heap[m]? = some (.deferred (some [])) ∧ markOf m ∉ r ∧ DefOk b0 β O w ds r) ∨
      (∃ s ds', ds = s :: ds' ∧ DenD β s d ∧ DefOk b0 β O w ds' r)
theorem DenD.mono {β β' : Gh} (h : Gle β β') {s : SV} {d : Deferred} (k : DenD β s d) : DenD β' s d := by
  cases s <;> simp only [DenD] at k
  obtain ⟨xs, ys, h1, h2, h3⟩ := k
  exact ⟨xs, ys, DenL.mono h _ _ h1, DenL.mono h _ _ h2, h3⟩
theorem DefOk.mono {b0 : Nat} {β β' : Gh} {O O' : List Nat} {w w' : World} (h : Gle β β') (hs : w.heap.size ≤ w'.heap.size) (hO : ∀ b, b < w.heap.size → b ∉ O → b ∉ O' ∧ w'.heap[b]? = w.heap[b]?) : ∀ {r : List Deferred} {ds : List SV}, DefOk b0 β O w ds r → DefOk b0 β' O' w' ds r
  | [], _, k => ⟨k.1, Nat.le_trans k.2 hs⟩
  | d :: r, ds, k => by
    rcases k with ⟨m, h1, h0, h2, h3, h4, h5⟩ | ⟨s, ds', h1, h2, h3⟩
    · obtain ⟨h6, h7⟩ := hO m (Array.getElem?_eq_some_iff.1 h3).1 h2
      exact .inl ⟨m, h1, h0, h6, h7.trans h3, h4, DefOk.mono h hs hO h5⟩
    · exact .inr ⟨s, ds', h1, h2.mono h, DefOk.mono h hs hO h3⟩
theorem DefOk.le {b0 : Nat} {β : Gh} {O : List Nat} {w : World} : ∀ {r : List Deferred} {ds : List SV}, DefOk b0 β O w ds r → b0 ≤ w.heap.size
  | [], _, k => k.2
  | d :: r, ds, k => by
    rcases k with ⟨m, _, _, _, _, _, h5⟩ | ⟨s, ds', _, _, h3⟩
    · exact h5.le
    · exact h3.le
theorem DefOk.ext {b0 : Nat} {β β' : Gh} {H H' : Hp} {w w' : World} (X : Ext β H w β' H' w') {r : List Deferred} {ds : List SV} (k : DefOk b0 β (owned β H) w ds r) : DefOk b0 β' (owned β' H') w' ds r :=
  k.mono X.pre X.fr.size fun b hb hn => ⟨fun hm => by
    rcases X.own b hm with h | h
    · exact hn h
    · omega, X.fr.block b hb hn⟩

/-! ### The temporaries -/
structure RepA (n b0 : Nat) (β : Gh) (E : Env) (H : Hp) (a : Act) (w : World) : Prop where
  rep : Rep β H w
  size : a.tmps.size = n
  defs : DefOk b0 β (owned β H) w E.ds a.defers
  env : EnvOk β E.ts a.tmps

def ev (E : Env) : Operand → Option SV
  | .tmp t => get E.ts t
  | .const x => some (ofVal x)
  | .global g => some (.v (.pointer (some ⟨g, 0, none⟩)))
  | .func f => some (.clo (.func f) [] [])
theorem ev_den {n b0 : Nat} {β : Gh} {E : Env} {H : Hp} {a : Act} {w : World} (R : RepA n b0 β E H a w) {x : Operand} {s : SV}
    (h : ev E x = some s) : Den β s (a.eval x) := by
  cases x with
  | tmp t =>
    obtain ⟨y, hy, hd⟩ := R.env t s h
    have : a.eval (.tmp t) = y := by simp [Act.eval, hy]
    rw [this]; exact hd
  | const x => simp [ev] at h; subst h; exact den_ofVal _ _
  | global g => simp [ev] at h; subst h; rfl
  | func f => simp [ev] at h; subst h; exact ⟨[], [], rfl, rfl, rfl⟩
def evs (E : Env) : List Operand → Option (List SV)
  | [] => some []
  | x :: r => match ev E x with
    | some s => match evs E r with
      | some l => some (s :: l)
      | none => none
    | none => none
theorem evs_den {n b0 : Nat} {β : Gh} {E : Env} {H : Hp} {a : Act} {w : World} (R : RepA n b0 β E H a w) : ∀ {l : List Operand} {ss : List SV},
    evs E l = some ss → DenL β ss (l.map a.eval)
  | [], _, h => by simp [evs] at h; subst h; rfl
  | x :: r, _, h => by
    simp only [evs] at h
    split at h
    · rename_i s hs
      split at h
      · rename_i l hl
        injection h with h; subst h
        exact ⟨_, _, ev_den R hs, evs_den R hl, rfl⟩
      · cases h
    · cases h

/-- A temporary is set. -/
def put (n : Nat) (d : Option Nat) (s : SV) (E : Env) (k : Env → Prop) : Prop :=
  match d with
  | none => k E
  | some d => match Nat.ble (d + 1) n with
    | true => k ⟨(d, s) :: E.ts, E.ds⟩
    | false => False

theorem RepA.put {n b0 : Nat} {β : Gh} {E : Env} {H : Hp} {a : Act} {w : World} {β' : Gh} {H' : Hp} {w' : World} (R : RepA n b0 β E H a w)
    (R' : Rep β' H' w') (X : Ext β H w β' H' w') {d : Option Nat} {s : SV} {x : Value} (hs : Den β' s x) {k : Env → Prop} (h : Sy.put n d s E k) :
    ∃ E', k E' ∧ RepA n b0 β' E' H' (a.put d x) w' := by
  cases d with
  | none => exact ⟨E, h, R', R.size, R.defs.ext X, R.env.mono X.pre⟩
  | some d =>
    simp only [Sy.put] at h
    split at h
    · rename_i hlt
      have hlt : d < n := by have := Nat.le_of_ble_eq_true hlt; omega
      refine ⟨_, h, R', by simp [Act.put, R.size], R.defs.ext X, fun t s' ht => ?_⟩
      simp only [get] at ht
      split at ht
      · rename_i hb
        injection ht with ht; subst ht
        have hb := Nat.eq_of_beq_eq_true hb
        subst hb
        exact ⟨x, by simp [Act.put, R.size, hlt], hs⟩
      · rename_i hb
        have hb := Nat.ne_of_beq_eq_false hb
        obtain ⟨y, hy, hd⟩ := R.env t s' ht
        exact ⟨y, by simp only [Act.put, Array.getElem?_setIfInBounds]; rw [if_neg hb]; exact hy, Den.mono X.pre _ _ hd⟩
    · exact h.elim

end Go.Sy

/- Sy, part B: the table of types; what an operation does to a state. -/
namespace Go.Sy
open Go

/-! ### Types -/
inductive TD where
  | other
  | bool
  | int (k : IntKind)
  | string
  | struct (fs : List (Nat × Nat × Bool))
  | array (len es : Nat) (ea : Bool)
  | slice (e es eb : Nat) (ea : Bool)
  | pointer (e : Nat)
  | func
  | iface
  | map (k e : Nat)
  | tuple
structure TI where
  size : Nat
  bytes : Nat
  agg : Bool
  zero : Option (List Value)
  zag : Bool
  d : TD
def isAggD : TypeDesc → Bool
  | .struct _ | .array _ _ => true
  | _ => false
def partOf (P : Program) (t : TypeId) : Option (Nat × Bool) :=
  match P.info? t, P.underlying t with
  | some i, some d => some (i.size, isAggD d)
  | _, _ => none
def fieldsOf (P : Program) : List Field → Option (List (Nat × Nat × Bool))
  | [] => some []
  | f :: r => match partOf P f.type, fieldsOf P r with
    | some p, some l => some ((f.offset, p) :: l)
    | _, _ => none
def tdOf (P : Program) : TypeDesc → Option TD
  | .bool => some .bool
  | .int k => some (.int k)
  | .string => some .string
  | .struct fs => match fieldsOf P fs.toList with
    | some l => some (.struct l)
    | none => none
  | .array n e => match partOf P e with
    | some p => some (.array n p.1 p.2)
    | none => none
  | .slice e => match partOf P e, P.info? e with
    | some p, some i => some (.slice e p.1 i.bytes p.2)
    | _, _ => none
  | .pointer e => some (.pointer e)
  | .func .. => some .func
  | .interface _ => some .iface
  | .map k e => some (.map k e)
  | .tuple _ => some .tuple
  | _ => some .other
def tiOf (P : Program) (t : TypeId) : Option TI :=
  match P.info? t, P.underlying t with
  | some i, some d => match tdOf P d with
    | some td => some { size := i.size, bytes := i.bytes, agg := isAggD d, zero := match i.zero with | some z => some z.cells.toList | none => none, zag := match i.zero with | some (.agg _) => true | _ => false, d := td }
    | none => none
  | _, _ => none
def getT : List TI → Nat → Option TI
  | [], _ => none
  | i :: _, 0 => some i
  | _ :: r, t + 1 => getT r t
def tabOkFrom (P : Program) : Nat → List TI → Prop
  | _, [] => True
  | t, i :: r => tiOf P t = some i ∧ tabOkFrom P (t + 1) r
def TabOk (T : List TI) (P : Program) : Prop := ∀ t i, getT T t = some i → tiOf P t = some i
theorem tabOk_of_from {P : Program} : ∀ {T : List TI} {t0 : Nat}, tabOkFrom P t0 T → ∀ t i, getT T t = some i → tiOf P (t0 + t) = some i
  | [], _, _, t, i, h => by simp [getT] at h
  | j :: r, t0, ⟨h1, h2⟩, t, i, h => by
    cases t with
    | zero => simp [getT] at h; subst h; exact h1
    | succ t => have := tabOk_of_from h2 t i (by simpa [getT] using h); rw [show t0 + (t + 1) = t0 + 1 + t by omega]; exact this
theorem tabOk_of {P : Program} {T : List TI} (h : tabOkFrom P 0 T) : TabOk T P := fun t i hi => by simpa using tabOk_of_from h t i hi
/-- The table, made of the program. -/
def mkTab (P : Program) : Nat → Nat → Option (List TI)
  | 0, _ => some []
  | n + 1, t => match tiOf P t with
    | none => none
    | some i => match mkTab P n (t + 1) with
      | none => none
      | some r => some (i :: r)
theorem tabOkFrom_mk {P : Program} : ∀ {n t : Nat} {T : List TI}, mkTab P n t = some T → tabOkFrom P t T
  | 0, _, _, h => by simp [mkTab] at h; subst h; trivial
  | n + 1, t, T, h => by
    simp only [mkTab] at h
    split at h
    · cases h
    · rename_i i hi
      split at h
      · cases h
      · rename_i r hr
        injection h with h
        subst h
        exact ⟨hi, tabOkFrom_mk hr⟩
theorem tabOk_mk {P : Program} {n : Nat} {T : List TI} (h : mkTab P n 0 = some T) : TabOk T P := tabOk_of (tabOkFrom_mk h)

structure TInfo (P : Program) (t : TypeId) (i : TI) where
  ti : TypeInfo
  desc : TypeDesc
  info : P.info? t = some ti
  und : P.underlying t = some desc
  size : ti.size = i.size
  bytes : ti.bytes = i.bytes
  agg : i.agg = isAggD desc
  zero : i.zero = ti.zero.map fun z => z.cells.toList
  zag : i.zag = (match ti.zero with | some (.agg _) => true | _ => false)
  d : tdOf P desc = some i.d
theorem TabOk.get {T : List TI} {P : Program} (h : TabOk T P) {t : TypeId} {i : TI} (ht : getT T t = some i) : Nonempty (TInfo P t i) := by
  have h := h t i ht
  unfold tiOf at h
  split at h
  · rename_i ti d h1 h2
    split at h
    · rename_i td h3
      injection h with h
      subst h
      exact ⟨⟨ti, d, h1, h2, rfl, rfl, rfl, by cases ti.zero <;> rfl, rfl, h3⟩⟩
    · cases h
  · cases h
theorem partOf_eq {P : Program} {t : TypeId} {n : Nat} {b : Bool} (h : partOf P t = some (n, b)) : ∃ i d, P.info? t = some i ∧ P.underlying t = some d ∧ i.size = n ∧ isAggD d = b := by
  unfold partOf at h
  split at h
  · rename_i i d h1 h2; simp at h; exact ⟨i, d, h1, h2, h.1, h.2⟩
  · cases h
theorem run_sizeOf' {P : Program} {t : TypeId} {i : TypeInfo} (h : P.info? t = some i) (w : World) : (sizeOf t).run P w = .ok i.size w := by simp [sizeOf, typeInfo, h]
theorem run_isAgg' {P : Program} {t : TypeId} {d : TypeDesc} (h : P.underlying t = some d) (w : World) : (isAgg t).run P w = .ok (isAggD d) w := by
  unfold isAgg
  rw [Sem.run_bind, run_underlying h]
  cases d <;> simp [isAggD]
theorem fieldsOf_mapM {P : Program} : ∀ {fs : List Field} {l : List (Nat × Nat × Bool)}, fieldsOf P fs = some l →
    fs.mapM (fun f => (P.info? f.type).map fun i => (f.offset, i.size)) = some (l.map fun x => (x.1, x.2.1))
  | [], _, h => by simp [fieldsOf] at h; subst h; rfl
  | f :: r, _, h => by
    simp only [fieldsOf] at h
    split at h
    · rename_i p l hp hl
      injection h with h
      subst h
      obtain ⟨n, b⟩ := p
      obtain ⟨i, d, h1, h2, h3, h4⟩ := partOf_eq hp
      simp [List.mapM_cons, h1, h3, fieldsOf_mapM hl]
    · cases h
theorem fieldsOf_get {P : Program} : ∀ {fs : List Field} {l : List (Nat × Nat × Bool)}, fieldsOf P fs = some l → ∀ {k o n : Nat} {b : Bool}, l[k]? = some (o, n, b) →
    ∃ f, fs[k]? = some f ∧ f.offset = o ∧ partOf P f.type = some (n, b)
  | [], _, h, k, o, n, b, hk => by simp [fieldsOf] at h; subst h; simp at hk
  | f :: r, _, h, k, o, n, b, hk => by
    simp only [fieldsOf] at h
    split at h
    · rename_i p l hp hl
      injection h with h
      subst h
      cases k with
      | zero => simp at hk; exact ⟨f, by simp, hk.1, by rw [hp, hk.2]⟩
      | succ k => simp at hk; obtain ⟨g, h1, h2, h3⟩ := fieldsOf_get hl hk; exact ⟨g, by simpa using h1, h2, h3⟩
    · cases h
section
variable {P : Program} {t : TypeId} {i : TI} (w : World)
theorem TInfo.run_size (h : TInfo P t i) : (sizeOf t).run P w = .ok i.size w := by simp [sizeOf, typeInfo, h.info, h.size]
theorem TInfo.run_und (h : TInfo P t i) : (underlying t).run P w = .ok h.desc w := run_underlying h.und w
theorem TInfo.run_agg (h : TInfo P t i) : (isAgg t).run P w = .ok i.agg w := by
  rw [h.agg]
  unfold isAgg
  rw [Sem.run_bind, h.run_und]
  cases h.desc <;> simp [isAggD]
end

/-! ### Boxes -/
section
variable {β : Gh} {H : Hp} {w : World}
/-- A box more. -/
theorem Rep.newBx (R : Rep β H w) {x : Bx} {o : Obj} (hx : BxOk ⟨β.b ++ [w.heap.size], β.g⟩ (w.alloc o) w.heap.size x) :
    Rep ⟨β.b ++ [w.heap.size], β.g⟩ { H with nb := H.nb + 1, boxes := H.boxes ++ [x] } (w.alloc o) ∧
      Ext β H w ⟨β.b ++ [w.heap.size], β.g⟩ { H with nb := H.nb + 1, boxes := H.boxes ++ [x] } (w.alloc o) := by
  have hpre : Gle β ⟨β.b ++ [w.heap.size], β.g⟩ := ⟨List.prefix_append _ _, fun _ _ h => h⟩
  have hown : ∀ b ∈ owned ⟨β.b ++ [w.heap.size], β.g⟩ { H with nb := H.nb + 1, boxes := H.boxes ++ [x] }, b ∈ owned β H ∨ b = w.heap.size := by
    intro b hb
    simp only [owned, List.append_assoc, List.mem_append, List.mem_singleton] at hb ⊢
    rcases hb with hb | hb | hb
    · exact .inl (.inl hb)
    · exact .inr hb
    · exact .inl (.inr hb)
  have hnew : w.heap.size ∉ owned β H := fun h => Nat.lt_irrefl _ (R.blt _ h)
  have hsz : w.heap.size ≤ (w.alloc o).heap.size := by simp
  refine ⟨⟨?_, by simp [R.nb], ?_, ?_, ?_, ?_⟩, ⟨hpre, ⟨rfl, rfl, rfl, by simp, fun k hk _ => Go.RowKit.Below.heap_alloc _ _ _ hk⟩, ?_, fun _ _ h => .inl h⟩⟩
  · simp [R.len]
  · intro i y b hi hb
    rcases Nat.lt_or_ge i H.boxes.length with hlt | hge
    · rw [List.getElem?_append_left hlt] at hi
      simp only [List.getElem?_append_left (R.len ▸ hlt)] at hb
      have h1 := R.box i y b hi hb
      exact h1.mono hpre hsz (Go.RowKit.Below.heap_alloc _ _ _ h1.lt)
    · have hi' : i = H.boxes.length := by
        have := (List.getElem?_eq_some_iff.1 hi).1
        simp at this; omega
      subst hi'
      rw [List.getElem?_append_right (Nat.le_refl _)] at hi
      simp only [List.getElem?_append_right (show β.b.length ≤ H.boxes.length by rw [R.len]; exact Nat.le_refl _)] at hb
      simp [R.len] at hi hb
      subst hi; subst hb
      exact hx
  · intro r hr
    exact (R.row r hr).mono hpre hsz fun b hb => Go.RowKit.Below.heap_alloc _ _ _ ((R.row r hr).lt hb)
  · have : (owned ⟨β.b ++ [w.heap.size], β.g⟩ { H with nb := H.nb + 1, boxes := H.boxes ++ [x] }) = β.b ++ ([w.heap.size] ++ H.rows.filterMap Row.blk) := by simp [owned]
    rw [this]
    have h2 := R.nd
    have h3 : (w.heap.size :: owned β H).Nodup := List.nodup_cons.2 ⟨hnew, h2⟩
    refine (List.Perm.nodup_iff ?_).1 h3
    unfold owned
    exact (List.perm_middle (l₁ := β.b) (a := w.heap.size) (l₂ := H.rows.filterMap Row.blk)).symm
  · intro a v hg
    obtain ⟨h1, h2⟩ := R.g a v hg
    have hlt := World.block_lt_of_cell? w a h1
    refine ⟨?_, ?_⟩
    · rw [World.cell?_of_block (w := w) (Go.RowKit.Below.heap_alloc _ _ _ hlt)]; exact h1
    · intro hm
      rcases hown _ hm with h | h
      · exact h2 h
      · omega
  · intro b hb
    rcases hown b hb with h | h
    · exact .inl h
    · exact .inr (by omega)
theorem Rep.new (R : Rep β H w) {cs : List SV} {xs : List Value} (hd : DenL β cs xs) (t : TypeId) :
    Rep ⟨β.b ++ [w.heap.size], β.g⟩ { H with nb := H.nb + 1, boxes := H.boxes ++ [.c cs] } (w.alloc (.cells xs.toArray t)) ∧
      Ext β H w ⟨β.b ++ [w.heap.size], β.g⟩ { H with nb := H.nb + 1, boxes := H.boxes ++ [.c cs] } (w.alloc (.cells xs.toArray t)) :=
  R.newBx (x := .c cs) ⟨xs, t, DenL.mono (show Gle β ⟨β.b ++ [w.heap.size], β.g⟩ from ⟨List.prefix_append _ _, fun _ _ h => h⟩) _ _ hd, heap_alloc_new _ _⟩

theorem Rep.box_at (R : Rep β H w) {i : Nat} {x : Bx} (hi : H.boxes[i]? = some x) : ∃ b, β.b[i]? = some b ∧ BxOk β w b x := by
  have hlt := (List.getElem?_eq_some_iff.1 hi).1
  have hb : β.b[i]? = some (β.b[i]'(by rw [R.len]; exact hlt)) := List.getElem?_eq_getElem _
  exact ⟨_, hb, R.box i x _ hi hb⟩

theorem Rep.notrow (R : Rep β H w) {b : Nat} (hb : b ∈ β.b) {r : Row} (hr : r ∈ H.rows) : r.blk ≠ some b := fun e =>
  (List.nodup_append.1 R.nd).2.2 b hb b (List.mem_filterMap.2 ⟨r, hr, e⟩) rfl

/-- A box's block gets another content. -/
theorem Rep.setBx (R : Rep β H w) {i b : Nat} {x x' : Bx} {w' : World} (hi : H.boxes[i]? = some x) (hb : β.b[i]? = some b)
    (hw : w'.os = w.os ∧ w'.tape = w.tape ∧ w'.output = w.output ∧ w'.heap.size = w.heap.size) (ho : ∀ k, k ≠ b → w'.heap[k]? = w.heap[k]?) (hx : BxOk β w' b x') :
    Rep β { H with boxes := H.boxes.set i x' } w' ∧ Ext β H w β { H with boxes := H.boxes.set i x' } w' := by
  have hbm : b ∈ owned β H := List.mem_append_left _ (List.mem_of_getElem? hb)
  have hnd : β.b.Nodup := (List.nodup_append.1 R.nd).1
  obtain ⟨hw1, hw2, hw3, hw4⟩ := hw
  refine ⟨⟨by simp [R.len], by simp [R.nb], ?_, ?_, R.nd, ?_⟩, ⟨Gle.refl _, ⟨hw1, hw2, hw3, by omega, fun k _ hk => ho k (fun e => hk (e ▸ hbm))⟩, fun _ h => .inl h, fun _ _ h => .inl h⟩⟩
  · intro j y b1 hj hb1
    by_cases hij : i = j
    · subst hij
      have hlt := (List.getElem?_eq_some_iff.1 hi).1
      simp only [List.getElem?_set_self hlt, Option.some.injEq] at hj
      subst hj
      obtain rfl : b = b1 := by rw [hb] at hb1; exact Option.some.inj hb1
      exact hx
    · simp only [List.getElem?_set_ne hij] at hj
      refine (R.box j y b1 hj hb1).mono (Gle.refl _) (by omega) (ho b1 ?_)
      intro e
      subst e
      exact hij ((List.getElem?_inj (List.getElem?_eq_some_iff.1 hb).1 hnd).1 (hb.trans hb1.symm))
  · intro r hr
    exact (R.row r hr).mono (Gle.refl _) (by omega) fun k hk => ho k (fun e => R.notrow (List.mem_of_getElem? hb) hr (e ▸ hk))
  · intro a v hg
    obtain ⟨h1, h2⟩ := R.g a v hg
    exact ⟨by rw [World.cell?_of_block (w := w) (ho a.block (fun e => h2 (e ▸ hbm)))]; exact h1, h2⟩
theorem Rep.set (R : Rep β H w) {i b : Nat} {cs cs' : List SV} {xs' : List Value} (hi : H.boxes[i]? = some (.c cs)) (hb : β.b[i]? = some b) (hd : DenL β cs' xs') :
    Rep β { H with boxes := H.boxes.set i (.c cs') } (w.setRow b xs'.toArray) ∧ Ext β H w β { H with boxes := H.boxes.set i (.c cs') } (w.setRow b xs'.toArray) := by
  obtain ⟨xs, t, _, hh⟩ := R.box i _ b hi hb
  exact R.setBx hi hb ⟨rfl, rfl, rfl, by simp⟩ (fun k hk => setRow_other _ _ _ _ hk) ⟨xs', t, hd, setRow_heap w b xs.toArray _ t _ hh⟩
end

/-! ### Lists, made whole -/
/-- Hands on a list whose spine is there. -/
def lf {α : Type} : List α → (List α → Prop) → Prop
  | [], k => k []
  | x :: r, k => lf r fun l => k (x :: l)
theorem lf_eq {α : Type} : ∀ (l : List α) (k : List α → Prop), lf l k = k l
  | [], _ => rfl
  | x :: r, k => by simp only [lf]; exact lf_eq r _
def nd {α : Type} : Option α → (α → Prop) → Prop
  | some a, k => k a
  | none, _ => False
theorem nd_elim {α : Type} {o : Option α} {k : α → Prop} (h : nd o k) : ∃ a, o = some a ∧ k a := by
  cases o with
  | none => exact h.elim
  | some a => exact ⟨a, rfl, h⟩
def nth {α : Type} : List α → Nat → Option α
  | [], _ => none
  | x :: _, 0 => some x
  | _ :: r, i + 1 => nth r i
theorem nth_eq {α : Type} : ∀ (l : List α) (i : Nat), nth l i = l[i]?
  | [], _ => rfl
  | x :: _, 0 => rfl
  | _ :: r, i + 1 => by simp only [nth, nth_eq r i]; simp
/-- So many from a place on. -/
def sub {α : Type} (l : List α) (o n : Nat) : Option (List α) :=
  match Nat.ble (o + n) l.length with
  | true => some ((l.drop o).take n)
  | false => none
theorem sub_eq {α : Type} {l : List α} {o n : Nat} {l' : List α} (h : sub l o n = some l') : o + n ≤ l.length ∧ l' = (l.drop o).take n := by
  unfold sub at h
  split at h
  · rename_i hb; injection h with h; exact ⟨Nat.le_of_ble_eq_true hb, h.symm⟩
  · cases h
/-- Others in their place. -/
def splice {α : Type} (l : List α) (o : Nat) (m : List α) : Option (List α) :=
  match Nat.ble (o + m.length) l.length with
  | true => some (l.take o ++ m ++ l.drop (o + m.length))
  | false => none
theorem splice_eq {α : Type} {l : List α} {o : Nat} {m l' : List α} (h : splice l o m = some l') : o + m.length ≤ l.length ∧ l' = l.take o ++ m ++ l.drop (o + m.length) := by
  unfold splice at h
  split at h
  · rename_i hb; injection h with h; exact ⟨Nat.le_of_ble_eq_true hb, h.symm⟩
  · cases h
theorem DenL.sub {β : Gh} {l : List SV} {ys : List Value} {o n : Nat} {l' : List SV} (hd : DenL β l ys) (h : sub l o n = some l') : DenL β l' ((ys.drop o).take n) := by
  obtain ⟨_, rfl⟩ := sub_eq h
  exact DenL.take n (DenL.drop o hd)
theorem DenL.splice {β : Gh} {l : List SV} {ys : List Value} {o : Nat} {m l' : List SV} {zs : List Value} (hd : DenL β l ys) (hm : DenL β m zs) (h : splice l o m = some l') :
    DenL β l' (ys.take o ++ zs ++ ys.drop (o + zs.length)) := by
  obtain ⟨_, rfl⟩ := splice_eq h
  have := hm.length
  exact DenL.append (DenL.append (DenL.take o hd) hm) (this ▸ DenL.drop _ hd)

/-! ### What an operation does -/
/-- A piece of the model's work, done from a state: it comes to a state of which k holds. -/
def Goes (P : Program) (β : Gh) (H : Hp) (w : World) (m : Sem Next) (k : SV → Hp → Prop) : Prop :=
  ∃ y w' β' s H', (m.run P w = .ok (.value y) w' ∨ (m.run P w = .ok .skip w' ∧ y = undef)) ∧ Den β' s y ∧ Rep β' H' w' ∧ Ext β H w β' H' w' ∧ k s H'
theorem Goes.stay {P : Program} {β : Gh} {H : Hp} {w : World} (R : Rep β H w) {m : Sem Next} {k : SV → Hp → Prop} {y : Value} {s : SV}
    (hm : m.run P w = .ok (.value y) w) (hd : Den β s y) (hk : k s H) : Goes P β H w m k := ⟨y, w, β, s, H, .inl hm, hd, R, Ext.refl _ _ _, hk⟩
theorem Goes.plain {P : Program} {β : Gh} {H : Hp} {w : World} (R : Rep β H w) {m : Sem Next} {k : SV → Hp → Prop} {y : Value}
    (hm : m.run P w = .ok (.value y) w) (hk : k (.v y) H) : Goes P β H w m k := .stay R hm (s := .v y) rfl hk

end Go.Sy

/- Sy, part C: operations, symbolically. -/
namespace Go.Sy
open Go

/-! ### Places where the prover speaks -/
def cnd (b : Bool) (p q : Prop) : Prop := match b with | true => p | false => q
theorem cnd_split {b : Bool} {p q : Prop} (h1 : b = true → p) (h2 : b = false → q) : cnd b p q := by cases b; exact h2 rfl; exact h1 rfl
theorem cnd_true {b : Bool} {p q : Prop} (h : b = true) (h1 : p) : cnd b p q := by subst h; exact h1
theorem cnd_false {b : Bool} {p q : Prop} (h : b = false) (h1 : q) : cnd b p q := by subst h; exact h1
theorem cnd_elim {b : Bool} {p q : Prop} (h : cnd b p q) : (b = true ∧ p) ∨ (b = false ∧ q) := by cases b; exact .inr ⟨rfl, h⟩; exact .inl ⟨rfl, h⟩
/-- An index in its bounds. -/
def inb (z : Int) (n : Nat) (k : Nat → Prop) : Prop :=
  match z with
  | .ofNat m => match Nat.blt m n with | true => k m | false => False
  | .negSucc _ => False
theorem inb_mk {z : Int} {n : Nat} {k : Nat → Prop} (h0 : 0 ≤ z) (h1 : z < n) (h : k z.toNat) : inb z n k := by
  obtain ⟨m, rfl⟩ := Int.eq_ofNat_of_zero_le h0
  have : Nat.blt m n = true := by rw [Nat.blt_eq]; omega
  show (match Nat.blt m n with | true => k m | false => False)
  rw [this]; exact h
theorem inb_nat {m n : Nat} {k : Nat → Prop} (h1 : m < n) (h : k m) : inb (m : Int) n k := inb_mk (by omega) (by omega) h
theorem inb_elim {z : Int} {n : Nat} {k : Nat → Prop} (h : inb z n k) : 0 ≤ z ∧ z < n ∧ k z.toNat := by
  cases z with
  | ofNat m =>
    simp only [inb] at h
    split at h
    · rename_i hb
      have : m < n := by rw [Nat.blt_eq] at hb; exact hb
      exact ⟨Int.natCast_nonneg m, Int.ofNat_lt.2 this, h⟩
    · exact h.elim
  | negSucc m => exact h.elim
/-- A count that is not below 0. -/
def nng (z : Int) (k : Nat → Prop) : Prop := match z with | .ofNat m => k m | .negSucc _ => False
theorem nng_mk {z : Int} {k : Nat → Prop} (h0 : 0 ≤ z) (h : k z.toNat) : nng z k := by
  obtain ⟨m, rfl⟩ := Int.eq_ofNat_of_zero_le h0; exact h
theorem nng_elim {z : Int} {k : Nat → Prop} (h : nng z k) : 0 ≤ z ∧ k z.toNat := by
  cases z with
  | ofNat m => exact ⟨Int.natCast_nonneg m, h⟩
  | negSucc m => exact h.elim
/-- A divisor. -/
def nz (z : Int) (p : Prop) : Prop := match z with | .ofNat (_ + 1) => p | .ofNat 0 => False | .negSucc _ => p
theorem nz_mk {z : Int} {p : Prop} (h0 : z ≠ 0) (h : p) : nz z p := by
  cases z with
  | ofNat m => cases m with
    | zero => exact absurd rfl h0
    | succ m => exact h
  | negSucc m => exact h
theorem nz_elim {z : Int} {p : Prop} (h : nz z p) : z ≠ 0 ∧ p := by
  cases z with
  | ofNat m => cases m with
    | zero => exact h.elim
    | succ m => exact ⟨(by intro e; cases e), h⟩
  | negSucc m => exact ⟨(by intro e; cases e), h⟩
def kindEq : IntKind → IntKind → Bool
  | .i8, .i8 | .i16, .i16 | .i32, .i32 | .i64, .i64 | .u8, .u8 | .u16, .u16 | .u32, .u32 | .u64, .u64 => true
  | _, _ => false
theorem kindEq_eq {a b : IntKind} (h : kindEq a b = true) : a = b := by cases a <;> cases b <;> first | rfl | cases h

/-! ### Numbers, texts, bools -/
def bitI (op : BinOp) (k : IntKind) (x y : Int) : Int :=
  match op with
  | .and => k.wrap (BitVec.ofInt k.bits x &&& BitVec.ofInt k.bits y).toNat
  | .or => k.wrap (BitVec.ofInt k.bits x ||| BitVec.ofInt k.bits y).toNat
  | .xor => k.wrap (BitVec.ofInt k.bits x ^^^ BitVec.ofInt k.bits y).toNat
  | _ => k.wrap (BitVec.ofInt k.bits x &&& ~~~ BitVec.ofInt k.bits y).toNat
def binI (op : BinOp) (k : IntKind) (a b : Int) (c : SV → Prop) : Prop :=
  match op with
  | .add => c (.v (.int k (k.wrap (a + b))))
  | .sub => c (.v (.int k (k.wrap (a - b))))
  | .mul => c (.v (.int k (k.wrap (a * b))))
  | .quo => nz b (c (.v (.int k (k.wrap (a.tdiv b)))))
  | .rem => nz b (c (.v (.int k (a.tmod b))))
  | .eql => c (.v (.bool (decide (a = b))))
  | .neq => c (.v (.bool (!decide (a = b))))
  | .lss => c (.v (.bool (decide (a < b))))
  | .leq => c (.v (.bool (decide (a ≤ b))))
  | .gtr => c (.v (.bool (decide (b < a))))
  | .geq => c (.v (.bool (decide (b ≤ a))))
  | .and => c (.v (.int k (bitI .and k a b)))
  | .or => c (.v (.int k (bitI .or k a b)))
  | .xor => c (.v (.int k (bitI .xor k a b)))
  | .andNot => c (.v (.int k (bitI .andNot k a b)))
  | _ => False
def binS (op : BinOp) (x y : SV) (c : SV → Prop) : Prop :=
  match x, y with
  | .v (.int k a), .v (.int k' b) =>
    match op with
    | .shl => nng b fun m => c (.v (.int k (k.wrap (a * 2 ^ (min m k.bits)))))
    | .shr => nng b fun m => c (.v (.int k (a.fdiv (2 ^ (min m k.bits)))))
    | op => match kindEq k k' with | true => binI op k a b c | false => False
  | .v (.string a), .v (.string b) =>
    match op with
    | .add => a.size + b.size ≤ 9223372036854775807 ∧ c (.v (.string (a ++ b)))
    | .eql => c (.v (.bool (decide (a = b))))
    | .neq => c (.v (.bool (!decide (a = b))))
    | .lss => c (.v (.bool (Op.bytesLess a.toList b.toList)))
    | .gtr => c (.v (.bool (!(Op.bytesLess a.toList b.toList || decide (a = b)))))
    | .leq => c (.v (.bool (Op.bytesLess a.toList b.toList || decide (a = b))))
    | .geq => c (.v (.bool (!Op.bytesLess a.toList b.toList)))
    | _ => False
  | _, _ => False

theorem toList_beq (a b : ByteArray) : (a.toList == b.toList) = decide (a = b) := by
  by_cases h : a = b
  · subst h; simp
  · have : a.toList ≠ b.toList := by
      intro e
      apply h
      rw [ByteArray.toList_eq, ByteArray.toList_eq] at e
      exact Go.WideShapes.bytes_inj e
    simp [h, this]

section
variable {P : Program} {β : Gh} {H : Hp} {w : World}
theorem binI_run {op : BinOp} {k : IntKind} {a b : Int} {c : SV → Prop} (h : binI op k a b c) (t : TypeId) (ox oy : Operand) :
    ∃ x, (do eqGuard op t ox oy (.int k a) (.int k b); binOp op t (.int k a) (.int k b) : Sem Value).run P w = .ok x w ∧ c (.v x) := by
  have e1 : (a != b) = !decide (a = b) := by by_cases h : a = b <;> simp [h]
  cases op <;> simp only [binI] at h
  case quo =>
    obtain ⟨hz, h⟩ := nz_elim h
    exact ⟨_, by simp [eqGuard, binOp, Op.intDiv, hz, Sem.run], h⟩
  case rem =>
    obtain ⟨hz, h⟩ := nz_elim h
    exact ⟨_, by simp [eqGuard, binOp, Op.intDiv, hz, Sem.run], h⟩
  all_goals first
    | exact h.elim
    | exact ⟨_, by simp [eqGuard, binOp, Op.intArith, Op.intCmp, Op.intBits, bitI, e1]; rfl, h⟩
    | exact ⟨_, by simp [eqGuard, binOp, Op.intArith, Op.intCmp, Op.intBits, bitI, e1], h⟩
theorem binS_run {op : BinOp} {sx sy : SV} {x y : Value} (hx : Den β sx x) (hy : Den β sy y) {c : SV → Prop} (h : binS op sx sy c) (t : TypeId) (ox oy : Operand) :
    ∃ z, (do eqGuard op t ox oy x y; binOp op t x y : Sem Value).run P w = .ok z w ∧ c (.v z) := by
  unfold binS at h
  split at h
  · rename_i k a k' b
    simp only [Den] at hx hy
    subst hx; subst hy
    split at h
    · obtain ⟨h0, h⟩ := nng_elim h
      exact ⟨_, by simp [eqGuard, binOp, Op.shift, show ¬ b < 0 by omega], h⟩
    · obtain ⟨h0, h⟩ := nng_elim h
      exact ⟨_, by simp [eqGuard, binOp, Op.shift, show ¬ b < 0 by omega], h⟩
    · split at h
      · rename_i hk
        have hk := kindEq_eq hk
        subst hk
        exact binI_run h t ox oy
      · exact h.elim
  · rename_i a b
    simp only [Den] at hx hy
    subst hx; subst hy
    have e1 := toList_beq a b
    split at h
    · obtain ⟨h0, h⟩ := h
      have : ¬ IntKind.i64.max < ((a.size + b.size : Nat) : Int) := by simp [IntKind.max, IntKind.signed, IntKind.bits]; omega
      exact ⟨_, by simp only [eqGuard, binOp, Op.stringOp, Sem.run_bind]; rw [if_neg this]; rfl, h⟩
    all_goals first
      | exact h.elim
      | exact ⟨_, by simp [eqGuard, binOp, Op.stringOp, e1], h⟩
  · exact h.elim
end

/-! ### One operand -/
def unS (op : UnOp) (x : SV) (c : SV → Prop) : Prop :=
  match op, x with
  | .neg, .v (.int k n) => c (.v (.int k (k.wrap (0 - n))))
  | .xor, .v (.int k n) => c (.v (.int k (bitI .xor k (match k.signed with | true => -1 | false => k.max) n)))
  | .not, .v (.bool b) => c (.v (.bool (!b)))
  | _, _ => False
theorem unS_run {P : Program} {β : Gh} {w : World} {op : UnOp} {sx : SV} {x : Value} (hx : Den β sx x) {c : SV → Prop} (h : unS op sx c) :
    ∃ z, (Op.unary op x).run P w = .ok z w ∧ c (.v z) := by
  unfold unS at h
  split at h <;> first
    | exact h.elim
    | (simp only [Den] at hx; subst hx
       refine ⟨_, ?_, h⟩
       simp only [Op.unary, Op.intArith, Op.intBits, bitI]
       first | rfl | (rename_i k n; cases k <;> rfl))

end Go.Sy

