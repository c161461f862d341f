import Derived.Tactics
import Derived.WalkKit
import Derived.Laws.AppendOwn
import Derived.Laws.OwnMore
import Derived.Laws.MakeOwn
import Derived.Laws.Tables
import Derived.Laws.Rows
import Derived.Laws.CopyRow
import Derived.Laws.EntriesVeiled
import Derived.Below
import Derived.KernelRfl
import Derived.RangeFuncLeaves
import Derived.OrdersIn
/- Sy: a verified generator of verification conditions over the kit's walk of code. Part A: symbolic values, heap states, their meaning. -/
set_option linter.unusedVariables false
set_option linter.unusedSimpArgs false
namespace Go.Sy
open Go

/-- Symbolic values: plain values; pointers into boxes (blocks of the run's own, told by their number); closures; structs; slices whose cells nobody writes any more ('lst'), pointers into such; slices of a row that is being made ('own'), pointers into such; what a loop over a function is called back by. -/
inductive SV where
  | v (x : Value)
  | loc (i o : Nat)
  | clo (f : Fn) (first caps : List SV)
  | agg (l : List SV)
  | tup (l : List SV)
  | ifc (t : TypeId) (x : SV)
  | lst (full : Bool) (sz : Nat) (es : List SV)
  | ro (cs : List SV) (o : Nat)
  | own (ri : Nat) (A : Option Addr) (n c : Nat)
  | optr (ri : Nat) (a : Addr) (o : Nat)
  | yld (i : Nat)
  | mref (i : Nat)
  deriving Inhabited

/-- What is known of memory: where the boxes lie; cells that nobody will write. -/
structure Gh where
  b : List Nat
  g : Addr → Option Value
def Gle (β β' : Gh) : Prop := β.b <+: β'.b ∧ ∀ a v, β.g a = some v → β'.g a = some v
theorem Gle.refl (β : Gh) : Gle β β := ⟨List.prefix_refl _, fun _ _ h => h⟩
theorem Gle.trans {β β' β'' : Gh} (h : Gle β β') (k : Gle β' β'') : Gle β β'' := ⟨h.1.trans k.1, fun a v hg => k.2 a v (h.2 a v hg)⟩
theorem Gle.at {β β' : Gh} (h : Gle β β') {i b : Nat} (hb : β.b[i]? = some b) : β'.b[i]? = some b := by
  obtain ⟨t, ht⟩ := h.1
  rw [← ht, List.getElem?_append_left (List.getElem?_eq_some_iff.1 hb).1]; exact hb

/-- The cells of values, side by side. -/
def cellsL (ws : List Value) : List Value := ws.flatMap (·.cells.toList)
/-- A slice whose cells nobody writes: where it lies, and what its elements are. -/
structure SlOk (g : Addr → Option Value) (full : Bool) (sz : Nat) (A : Option Addr) (n c : Nat) (ws : List Value) : Prop where
  len : ws.length = n
  le : n ≤ c
  mx : c ≤ maxLen
  nil : A = none → n = 0 ∧ c = 0
  full : full = true → c = n
  sz : ∀ w ∈ ws, w.cells.size = sz
  one : ∀ u ∈ cellsL ws, u.oneCell' = true
  mem : ∀ a, A = some a → ∀ (j : Nat) (u : Value), (cellsL ws)[j]? = some u → g (a.add j) = some u
theorem SlOk.mono {g g' : Addr → Option Value} (h : ∀ a v, g a = some v → g' a = some v) {full : Bool} {sz : Nat} {A : Option Addr} {n c : Nat} {ws : List Value} (k : SlOk g full sz A n c ws) : SlOk g' full sz A n c ws :=
  ⟨k.len, k.le, k.mx, k.nil, k.full, k.sz, k.one, fun a ha j u hu => h _ _ (k.mem a ha j u hu)⟩

mutual
def Den (β : Gh) : SV → Value → Prop
  | .v x, y => y = x
  | .loc i o, y => ∃ b, β.b[i]? = some b ∧ y = .pointer (some ⟨b, o, none⟩)
  | .clo f a c, y => ∃ xs ys, DenL β a xs ∧ DenL β c ys ∧ y = .func f xs.toArray ys.toArray
  | .agg l, y => ∃ xs, DenL β l xs ∧ y = .agg xs.toArray
  | .tup l, y => ∃ xs, DenL β l xs ∧ y = .tuple xs.toArray
  | .ifc t x, y => ∃ z, Den β x z ∧ y = .iface t z
  | .lst full sz es, y => ∃ A n c ws, DenL β es ws ∧ SlOk β.g full sz A n c ws ∧ y = .slice A n c
  | .ro cs o, y => ∃ a ws, DenL β cs ws ∧ (∀ (j : Nat) (u : Value), ws[j]? = some u → β.g (Addr.add a j) = some u) ∧ y = .pointer (some (a.add o))
  | .own _ A n c, y => y = .slice A n c
  | .optr _ a o, y => y = .pointer (some (a.add o))
  | .yld i, y => ∃ b, β.b[i]? = some b ∧ y = .func (.yield b) #[] #[]
  | .mref i, y => ∃ b, β.b[i]? = some b ∧ y = .map (some b)
def DenL (β : Gh) : List SV → List Value → Prop
  | [], ys => ys = []
  | x :: r, ys => ∃ y zs, Den β x y ∧ DenL β r zs ∧ ys = y :: zs
end

mutual
theorem Den.mono {β β' : Gh} (h : Gle β β') : ∀ (s : SV) (y : Value), Den β s y → Den β' s y
  | .v x, y, hd => hd
  | .loc i o, y, ⟨b, hb, hy⟩ => ⟨b, h.at hb, hy⟩
  | .clo f a c, y, ⟨xs, ys, h1, h2, hy⟩ => ⟨xs, ys, DenL.mono h a xs h1, DenL.mono h c ys h2, hy⟩
  | .agg l, y, ⟨xs, h1, hy⟩ => ⟨xs, DenL.mono h l xs h1, hy⟩
  | .tup l, y, ⟨xs, h1, hy⟩ => ⟨xs, DenL.mono h l xs h1, hy⟩
  | .ifc t x, y, ⟨z, h1, hy⟩ => ⟨z, Den.mono h x z h1, hy⟩
  | .lst _ _ es, y, ⟨A, n, c, ws, h1, h2, hy⟩ => ⟨A, n, c, ws, DenL.mono h es ws h1, h2.mono h.2, hy⟩
  | .ro cs o, y, ⟨a, ws, h1, h2, hy⟩ => ⟨a, ws, DenL.mono h cs ws h1, fun j u hu => h.2 _ _ (h2 j u hu), hy⟩
  | .own _ _ _ _, y, hd => hd
  | .optr _ _ _, y, hd => hd
  | .yld i, y, ⟨b, hb, hy⟩ => ⟨b, h.at hb, hy⟩
  | .mref i, y, ⟨b, hb, hy⟩ => ⟨b, h.at hb, hy⟩
theorem DenL.mono {β β' : Gh} (h : Gle β β') : ∀ (l : List SV) (ys : List Value), DenL β l ys → DenL β' l ys
  | [], ys, hd => hd
  | x :: r, ys, ⟨y, zs, h1, h2, hy⟩ => ⟨y, zs, Den.mono h x y h1, DenL.mono h r zs h2, hy⟩
end

theorem DenL.length {β : Gh} : ∀ {l : List SV} {ys : List Value}, DenL β l ys → ys.length = l.length
  | [], _, h => by simp [DenL] at h; simp [h]
  | x :: r, _, h => by
    obtain ⟨y, zs, _, h2, rfl⟩ := h
    simp [DenL.length h2]
theorem DenL.get {β : Gh} : ∀ {l : List SV} {ys : List Value}, DenL β l ys → ∀ {i : Nat} {s : SV}, l[i]? = some s → ∃ y, ys[i]? = some y ∧ Den β s y
  | [], _, _, i, s, hs => by simp at hs
  | x :: r, _, h, i, s, hs => by
    obtain ⟨y, zs, h1, h2, rfl⟩ := h
    cases i with
    | zero => simp at hs; subst hs; exact ⟨y, by simp, h1⟩
    | succ i => simp at hs; obtain ⟨z, hz, hd⟩ := DenL.get h2 hs; exact ⟨z, by simpa using hz, hd⟩
theorem DenL.append {β : Gh} : ∀ {l l' : List SV} {ys ys' : List Value}, DenL β l ys → DenL β l' ys' → DenL β (l ++ l') (ys ++ ys')
  | [], _, _, _, h, h' => by simp [DenL] at h; subst h; simpa using h'
  | x :: r, _, _, _, h, h' => by
    obtain ⟨y, zs, h1, h2, rfl⟩ := h
    exact ⟨y, _, h1, DenL.append h2 h', by simp⟩
theorem DenL.take {β : Gh} : ∀ {l : List SV} {ys : List Value} (n : Nat), DenL β l ys → DenL β (l.take n) (ys.take n)
  | _, _, 0, _ => by simp [DenL]
  | [], _, n + 1, h => by simp [DenL] at h; subst h; simp [DenL]
  | x :: r, _, n + 1, h => by
    obtain ⟨y, zs, h1, h2, rfl⟩ := h
    exact ⟨y, _, h1, DenL.take n h2, by simp⟩
theorem DenL.drop {β : Gh} : ∀ {l : List SV} {ys : List Value} (n : Nat), DenL β l ys → DenL β (l.drop n) (ys.drop n)
  | _, _, 0, h => by simpa using h
  | [], _, n + 1, h => by simp [DenL] at h; subst h; simp [DenL]
  | x :: r, _, n + 1, h => by
    obtain ⟨y, zs, h1, h2, rfl⟩ := h
    simpa using DenL.drop n h2
theorem DenL.set {β : Gh} : ∀ {l : List SV} {ys : List Value} (i : Nat) {s : SV} {y : Value}, DenL β l ys → Den β s y → DenL β (l.set i s) (ys.set i y)
  | [], _, _, _, _, h, _ => by simp [DenL] at h; subst h; simp [DenL]
  | x :: r, _, 0, _, _, h, hd => by
    obtain ⟨y, zs, h1, h2, rfl⟩ := h
    exact ⟨_, _, hd, h2, rfl⟩
  | x :: r, _, i + 1, _, _, h, hd => by
    obtain ⟨y, zs, h1, h2, rfl⟩ := h
    exact ⟨_, _, h1, DenL.set i h2 hd, rfl⟩
theorem DenL.plain (β : Gh) : ∀ (l : List Value), DenL β (l.map .v) l
  | [] => rfl
  | x :: r => ⟨x, r, rfl, DenL.plain β r, rfl⟩

/-- May it stand in one cell? -/
def one : SV → Bool
  | .v x => x.oneCell'
  | .agg _ | .tup _ => false
  | _ => true
theorem one_cell {β : Gh} {s : SV} {y : Value} (h : one s = true) (hd : Den β s y) : y.oneCell' = true := by
  cases s <;> simp only [one, Den, Bool.false_eq_true] at h hd
  case v => subst hd; exact h
  case loc => obtain ⟨b, _, rfl⟩ := hd; rfl
  case clo => obtain ⟨_, _, _, _, rfl⟩ := hd; rfl
  case ifc => obtain ⟨_, _, rfl⟩ := hd; rfl
  case lst => obtain ⟨_, _, _, _, _, _, rfl⟩ := hd; rfl
  case ro => obtain ⟨_, _, _, _, rfl⟩ := hd; rfl
  case own => subst hd; rfl
  case optr => subst hd; rfl
  case yld => obtain ⟨_, _, rfl⟩ := hd; rfl
  case mref => obtain ⟨_, _, rfl⟩ := hd; rfl
def ones : List SV → Bool
  | [] => true
  | x :: r => match one x with | true => ones r | false => false
theorem ones_cell {β : Gh} : ∀ {l : List SV} {ys : List Value}, ones l = true → DenL β l ys → ∀ v ∈ ys, v.oneCell' = true
  | [], _, _, h => by simp [DenL] at h; subst h; simp
  | x :: r, _, h, hd => by
    obtain ⟨y, zs, h1, h2, rfl⟩ := hd
    simp only [ones] at h
    split at h
    · rename_i hx
      intro v hv
      rcases List.mem_cons.1 hv with rfl | hv
      · exact one_cell hx h1
      · exact ones_cell h h2 v hv
    · cases h

/-- A value of the text as a symbolic one. -/
def ofVal : Value → SV
  | .agg cs => .agg (cs.toList.map .v)
  | .tuple cs => .tup (cs.toList.map .v)
  | .func f a c => .clo f (a.toList.map .v) (c.toList.map .v)
  | x => .v x
theorem den_ofVal (β : Gh) (x : Value) : Den β (ofVal x) x := by
  cases x <;> first
    | rfl
    | exact ⟨_, DenL.plain _ _, by simp⟩
    | exact ⟨_, _, DenL.plain _ _, DenL.plain _ _, by simp⟩
/-- The cells of a value. -/
def cells : SV → List SV
  | .agg l => l
  | .v (.agg cs) => cs.toList.map .v
  | s => [s]
theorem den_cells {β : Gh} {s : SV} {y : Value} (h : Den β s y) : DenL β (cells s) y.cells.toList := by
  unfold cells
  split
  · obtain ⟨xs, h1, rfl⟩ := h; simpa [Value.cells] using h1
  · simp only [Den] at h; subst h; simpa [Value.cells] using DenL.plain _ _
  · rename_i h1 h2
    have : y.cells.toList = [y] := by
      cases s <;> simp only [Den] at h
      case v x => subst h; cases y <;> first | rfl | (exact absurd rfl (h2 _))
      case loc => obtain ⟨b, _, rfl⟩ := h; rfl
      case clo => obtain ⟨_, _, _, _, rfl⟩ := h; rfl
      case agg l => exact absurd rfl (h1 l)
      case tup => obtain ⟨_, _, rfl⟩ := h; rfl
      case ifc => obtain ⟨_, _, rfl⟩ := h; rfl
      case lst => obtain ⟨_, _, _, _, _, _, rfl⟩ := h; rfl
      case ro => obtain ⟨_, _, _, _, rfl⟩ := h; rfl
      case own => subst h; rfl
      case optr => subst h; rfl
      case yld => obtain ⟨_, _, rfl⟩ := h; rfl
      case mref => obtain ⟨_, _, rfl⟩ := h; rfl
    rw [this]
    exact ⟨y, [], h, rfl, rfl⟩

/-- The temporaries that are known; the calls that are deferred. -/
structure Env where
  ts : List (Nat × SV)
  ds : List SV
def get : List (Nat × SV) → Nat → Option SV
  | [], _ => none
  | (u, s) :: r, t => match Nat.beq u t with | true => some s | false => get r t

/-- A loop over a function that is on its way. -/
structure LoopS where
  st : LoopState
  pend : Option Code
  n : Nat
  E : List (Nat × SV)
  ps : Array Tmp
  asg : Code
  body : Code
/-- What a box holds. -/
inductive Bx where
  | c (cs : List SV)
  | lp (L : LoopS)
  | df
  | mp (kvs : List (Value × SV))
  | gone
/-- A slice of the run's own: its block may be appended to and written, till it is handed over ('fro'). -/
structure Row where
  A : Option Addr
  n : Nat
  c : Nat
  e : TypeId
  sz : Nat
  es : List SV
  fro : Bool
structure Hp where
  nb : Nat
  boxes : List Bx
  rows : List Row

def DenM (β : Gh) : List (Value × SV) → List MapEntry → Prop
  | [], es => es = []
  | (k, s) :: r, es => ∃ e zs, e.key = k ∧ Den β s e.val ∧ DenM β r zs ∧ es = e :: zs
theorem DenM.mono {β β' : Gh} (h : Gle β β') : ∀ {l : List (Value × SV)} {es : List MapEntry}, DenM β l es → DenM β' l es
  | [], _, hd => hd
  | (k, s) :: r, _, ⟨e, zs, h1, h2, h3, h4⟩ => ⟨e, zs, h1, Den.mono h _ _ h2, DenM.mono h h3, h4⟩
def EnvOk (β : Gh) (E : List (Nat × SV)) (tmps : Array Value) : Prop := ∀ (t : Nat) (s : SV), get E t = some s → ∃ x, tmps[t]? = some x ∧ Den β s x
theorem EnvOk.mono {β β' : Gh} (h : Gle β β') {E : List (Nat × SV)} {tmps : Array Value} (k : EnvOk β E tmps) : EnvOk β' E tmps := fun t s ht => let ⟨x, h1, h2⟩ := k t s ht; ⟨x, h1, Den.mono h _ _ h2⟩
def BxOk (β : Gh) (w : World) (b : Nat) : Bx → Prop
  | .c cs => ∃ xs t, DenL β cs xs ∧ w.heap[b]? = some (Obj.cells xs.toArray t (0, 0))
  | .lp L => ∃ r : Loop, w.heap[b]? = some (Obj.loop r) ∧ r.state = L.st ∧ r.pending = L.pend ∧ r.params = L.ps ∧ r.assign = L.asg ∧ r.body = L.body ∧ r.tmps.size = L.n ∧ EnvOk β L.E r.tmps
  | .df => w.heap[b]? = some (Obj.deferred (some []))
  | .mp kvs => ∃ es ck, w.heap[b]? = some (Obj.map es ck) ∧ DenM β kvs es.toList
  | .gone => b < w.heap.size
theorem BxOk.lt {β : Gh} {w : World} {b : Nat} {x : Bx} (h : BxOk β w b x) : b < w.heap.size := by
  cases x with
  | c cs => obtain ⟨_, _, _, h⟩ := h; exact (Array.getElem?_eq_some_iff.1 h).1
  | lp L => obtain ⟨_, h, _⟩ := h; exact (Array.getElem?_eq_some_iff.1 h).1
  | df => exact (Array.getElem?_eq_some_iff.1 h).1
  | mp kvs => obtain ⟨_, _, h, _⟩ := h; exact (Array.getElem?_eq_some_iff.1 h).1
  | gone => exact h
theorem BxOk.mono {β β' : Gh} {w w' : World} {b : Nat} {x : Bx} (h : BxOk β w b x) (hg : Gle β β') (hs : w.heap.size ≤ w'.heap.size) (hb : w'.heap[b]? = w.heap[b]?) : BxOk β' w' b x := by
  cases x with
  | c cs => obtain ⟨xs, t, h1, h2⟩ := h; exact ⟨xs, t, DenL.mono hg _ _ h1, by rw [hb]; exact h2⟩
  | lp L => obtain ⟨r, h1, h2, h3, h4, h5, h6, h7, h8⟩ := h; exact ⟨r, by rw [hb]; exact h1, h2, h3, h4, h5, h6, h7, h8.mono hg⟩
  | df => exact hb.trans h
  | mp kvs => obtain ⟨es, ck, h1, h2⟩ := h; exact ⟨es, ck, by rw [hb]; exact h1, h2.mono hg⟩
  | gone => exact Nat.lt_of_lt_of_le h hs

/-- The block of a row that may still be written. -/
def Row.blk (r : Row) : Option Nat := match r.fro with | true => none | false => r.A.map (·.block)
def owned (β : Gh) (H : Hp) : List Nat := β.b ++ H.rows.filterMap Row.blk
def RowOk (β : Gh) (w : World) (r : Row) : Prop :=
  ∃ ws, DenL β r.es ws ∧ (∀ u ∈ ws, u.cells.size = r.sz) ∧ ws.length = r.n ∧
    match r.fro with
    | true => SlOk β.g false r.sz r.A r.n r.c ws
    | false => w.ownsRow 0 r.e r.sz (.slice r.A r.n r.c) r.n (cellsL ws) ∧ ∀ u ∈ cellsL ws, u.oneCell' = true

structure Rep (β : Gh) (H : Hp) (w : World) : Prop where
  len : β.b.length = H.boxes.length
  nb : H.nb = H.boxes.length
  box : ∀ (i : Nat) (x : Bx) (b : Nat), H.boxes[i]? = some x → β.b[i]? = some b → BxOk β w b x
  row : ∀ r ∈ H.rows, RowOk β w r
  nd : (owned β H).Nodup
  g : ∀ a v, β.g a = some v → w.cell? a = some v ∧ a.block ∉ owned β H

/-- From w to w' nothing was written but blocks of O, and new ones. -/
structure Fr (O : List Nat) (w w' : World) : Prop where
  os : w'.os = w.os
  tape : w'.tape = w.tape
  output : w'.output = w.output
  size : w.heap.size ≤ w'.heap.size
  block : ∀ k, k < w.heap.size → k ∉ O → w'.heap[k]? = w.heap[k]?
theorem Fr.refl (O : List Nat) (w : World) : Fr O w w := ⟨rfl, rfl, rfl, Nat.le_refl _, fun _ _ _ => rfl⟩

/-- How a state stands to an earlier one. -/
structure Ext (β : Gh) (H : Hp) (w : World) (β' : Gh) (H' : Hp) (w' : World) : Prop where
  pre : Gle β β'
  fr : Fr (owned β H) w w'
  own : ∀ b ∈ owned β' H', b ∈ owned β H ∨ w.heap.size ≤ b
  gn : ∀ a v, β'.g a = some v → β.g a = some v ∨ a.block ∈ owned β H ∨ w.heap.size ≤ a.block
theorem Ext.refl (β : Gh) (H : Hp) (w : World) : Ext β H w β H w := ⟨Gle.refl _, Fr.refl _ _, fun _ h => .inl h, fun _ _ h => .inl h⟩
theorem Ext.trans {β : Gh} {H : Hp} {w : World} {β' : Gh} {H' : Hp} {w' : World} {β'' : Gh} {H'' : Hp} {w'' : World}
    (h : Ext β H w β' H' w') (k : Ext β' H' w' β'' H'' w'') : Ext β H w β'' H'' w'' where
  pre := h.pre.trans k.pre
  fr := ⟨k.fr.os.trans h.fr.os, k.fr.tape.trans h.fr.tape, k.fr.output.trans h.fr.output, Nat.le_trans h.fr.size k.fr.size, fun b hb hn =>
    (k.fr.block b (Nat.lt_of_lt_of_le hb h.fr.size) (fun hm => by
      rcases h.own b hm with h1 | h1
      · exact hn h1
      · omega)).trans (h.fr.block b hb hn)⟩
  own := fun b hb => by
    rcases k.own b hb with h1 | h1
    · exact h.own b h1
    · exact .inr (Nat.le_trans h.fr.size h1)
  gn := fun a v hg => by
    rcases k.gn a v hg with h1 | h1 | h1
    · exact h.gn a v h1
    · exact .inr (h.own _ h1)
    · exact .inr (.inr (Nat.le_trans h.fr.size h1))

theorem RowOk.lt {β : Gh} {w : World} {r : Row} (h : RowOk β w r) {b : Nat} (hb : r.blk = some b) : b < w.heap.size := by
  obtain ⟨ws, _, _, _, h⟩ := h
  unfold Row.blk at hb
  cases hf : r.fro with
  | true => rw [hf] at hb; cases hb
  | false =>
    rw [hf] at hb h
    refine (h.1.lt b ?_).2
    simp only at hb
    cases hA : r.A with
    | none => rw [hA] at hb; cases hb
    | some a => rw [hA] at hb; simpa [Value.ownBlock] using hb
theorem Rep.blt {β : Gh} {H : Hp} {w : World} (R : Rep β H w) : ∀ b ∈ owned β H, b < w.heap.size := by
  intro b hb
  rcases List.mem_append.1 hb with h | h
  · obtain ⟨i, hi, rfl⟩ := List.mem_iff_getElem.1 h
    have hlt : i < H.boxes.length := R.len ▸ hi
    exact (R.box i H.boxes[i] β.b[i] (List.getElem?_eq_getElem hlt) (List.getElem?_eq_getElem hi)).lt
  · obtain ⟨r, hr, hb⟩ := List.mem_filterMap.1 h
    exact (R.row r hr).lt hb
/-- A row, carried to a world in which its block is as it was. -/
theorem RowOk.mono {β β' : Gh} {w w' : World} {r : Row} (h : RowOk β w r) (hg : Gle β β') (hs : w.heap.size ≤ w'.heap.size) (hb : ∀ b, r.blk = some b → w'.heap[b]? = w.heap[b]?) : RowOk β' w' r := by
  obtain ⟨ws, h1, h2, h3, h4⟩ := h
  refine ⟨ws, DenL.mono hg _ _ h1, h2, h3, ?_⟩
  cases hf : r.fro with
  | true => rw [hf] at h4; exact h4.mono hg.2
  | false =>
    rw [hf] at h4
    obtain ⟨⟨h5, h6⟩, h7⟩ := h4
    refine ⟨⟨h5, ?_⟩, h7⟩
    rcases h6 with h6 | ⟨g, cap, cur, e1, h8, h9, h10⟩
    · exact .inl h6
    · refine .inr ⟨g, cap, cur, e1, h8, ?_, h10⟩
      rw [hb g (by simp only [Row.blk, hf]; injection e1 with e2; rw [e2]; rfl)]; exact h9

/-! ### The calls that are deferred; marks of loops over functions among them -/
def markOf (m : Nat) : Deferred := { target := .collected m, args := #[] }
def DenD (β : Gh) : SV → Deferred → Prop
  | .clo f a c, d => ∃ xs ys, DenL β a xs ∧ DenL β c ys ∧ d = { target := .fn f ys.toArray, args := xs.toArray }
  | _, _ => False
def DefOk (b0 : Nat) (β : Gh) (O : List Nat) (w : World) : List SV → List Deferred → Prop
  | ds, [] => ds = [] ∧ b0 ≤ w.heap.size
  | ds, d :: r => (∃ m, d = markOf m ∧ b0 ≤ m ∧ m ∉ O ∧ w.heap[m]? = some (.deferred (some [])) ∧ markOf m ∉ r ∧ DefOk b0 β O w ds r) ∨
      (∃ s ds', ds = s :: ds' ∧ DenD β s d ∧ DefOk b0 β O w ds' r)
theorem DenD.mono {β β' : Gh} (h : Gle β β') {s : SV} {d : Deferred} (k : DenD β s d) : DenD β' s d := by
  cases s <;> simp only [DenD] at k
  obtain ⟨xs, ys, h1, h2, h3⟩ := k
  exact ⟨xs, ys, DenL.mono h _ _ h1, DenL.mono h _ _ h2, h3⟩
theorem DefOk.mono {b0 : Nat} {β β' : Gh} {O O' : List Nat} {w w' : World} (h : Gle β β') (hs : w.heap.size ≤ w'.heap.size) (hO : ∀ b, b < w.heap.size → b ∉ O → b ∉ O' ∧ w'.heap[b]? = w.heap[b]?) : ∀ {r : List Deferred} {ds : List SV}, DefOk b0 β O w ds r → DefOk b0 β' O' w' ds r
  | [], _, k => ⟨k.1, Nat.le_trans k.2 hs⟩
  | d :: r, ds, k => by
    rcases k with ⟨m, h1, h0, h2, h3, h4, h5⟩ | ⟨s, ds', h1, h2, h3⟩
    · obtain ⟨h6, h7⟩ := hO m (Array.getElem?_eq_some_iff.1 h3).1 h2
      exact .inl ⟨m, h1, h0, h6, h7.trans h3, h4, DefOk.mono h hs hO h5⟩
    · exact .inr ⟨s, ds', h1, h2.mono h, DefOk.mono h hs hO h3⟩
theorem DefOk.le {b0 : Nat} {β : Gh} {O : List Nat} {w : World} : ∀ {r : List Deferred} {ds : List SV}, DefOk b0 β O w ds r → b0 ≤ w.heap.size
  | [], _, k => k.2
  | d :: r, ds, k => by
    rcases k with ⟨m, _, _, _, _, _, h5⟩ | ⟨s, ds', _, _, h3⟩
    · exact h5.le
    · exact h3.le
theorem DefOk.ext {b0 : Nat} {β β' : Gh} {H H' : Hp} {w w' : World} (X : Ext β H w β' H' w') {r : List Deferred} {ds : List SV} (k : DefOk b0 β (owned β H) w ds r) : DefOk b0 β' (owned β' H') w' ds r :=
  k.mono X.pre X.fr.size fun b hb hn => ⟨fun hm => by
    rcases X.own b hm with h | h
    · exact hn h
    · omega, X.fr.block b hb hn⟩

/-! ### The temporaries -/
structure RepA (n b0 : Nat) (β : Gh) (E : Env) (H : Hp) (a : Act) (w : World) : Prop where
  rep : Rep β H w
  size : a.tmps.size = n
  defs : DefOk b0 β (owned β H) w E.ds a.defers
  env : EnvOk β E.ts a.tmps

def ev (E : Env) : Operand → Option SV
  | .tmp t => get E.ts t
  | .const x => some (ofVal x)
  | .global g => some (.v (.pointer (some ⟨g, 0, none⟩)))
  | .func f => some (.clo (.func f) [] [])
theorem ev_den {n b0 : Nat} {β : Gh} {E : Env} {H : Hp} {a : Act} {w : World} (R : RepA n b0 β E H a w) {x : Operand} {s : SV}
    (h : ev E x = some s) : Den β s (a.eval x) := by
  cases x with
  | tmp t =>
    obtain ⟨y, hy, hd⟩ := R.env t s h
    have : a.eval (.tmp t) = y := by simp [Act.eval, hy]
    rw [this]; exact hd
  | const x => simp [ev] at h; subst h; exact den_ofVal _ _
  | global g => simp [ev] at h; subst h; rfl
  | func f => simp [ev] at h; subst h; exact ⟨[], [], rfl, rfl, rfl⟩
def evs (E : Env) : List Operand → Option (List SV)
  | [] => some []
  | x :: r => match ev E x with
    | some s => match evs E r with
      | some l => some (s :: l)
      | none => none
    | none => none
theorem evs_den {n b0 : Nat} {β : Gh} {E : Env} {H : Hp} {a : Act} {w : World} (R : RepA n b0 β E H a w) : ∀ {l : List Operand} {ss : List SV},
    evs E l = some ss → DenL β ss (l.map a.eval)
  | [], _, h => by simp [evs] at h; subst h; rfl
  | x :: r, _, h => by
    simp only [evs] at h
    split at h
    · rename_i s hs
      split at h
      · rename_i l hl
        injection h with h; subst h
        exact ⟨_, _, ev_den R hs, evs_den R hl, rfl⟩
      · cases h
    · cases h

/-- A temporary is set. -/
def put (n : Nat) (d : Option Nat) (s : SV) (E : Env) (k : Env → Prop) : Prop :=
  match d with
  | none => k E
  | some d => match Nat.ble (d + 1) n with
    | true => k ⟨(d, s) :: E.ts, E.ds⟩
    | false => False

theorem RepA.put {n b0 : Nat} {β : Gh} {E : Env} {H : Hp} {a : Act} {w : World} {β' : Gh} {H' : Hp} {w' : World} (R : RepA n b0 β E H a w)
    (R' : Rep β' H' w') (X : Ext β H w β' H' w') {d : Option Nat} {s : SV} {x : Value} (hs : Den β' s x) {k : Env → Prop} (h : Sy.put n d s E k) :
    ∃ E', k E' ∧ RepA n b0 β' E' H' (a.put d x) w' := by
  cases d with
  | none => exact ⟨E, h, R', R.size, R.defs.ext X, R.env.mono X.pre⟩
  | some d =>
    simp only [Sy.put] at h
    split at h
    · rename_i hlt
      have hlt : d < n := by have := Nat.le_of_ble_eq_true hlt; omega
      refine ⟨_, h, R', by simp [Act.put, R.size], R.defs.ext X, fun t s' ht => ?_⟩
      simp only [get] at ht
      split at ht
      · rename_i hb
        injection ht with ht; subst ht
        have hb := Nat.eq_of_beq_eq_true hb
        subst hb
        exact ⟨x, by simp [Act.put, R.size, hlt], hs⟩
      · rename_i hb
        have hb := Nat.ne_of_beq_eq_false hb
        obtain ⟨y, hy, hd⟩ := R.env t s' ht
        exact ⟨y, by simp only [Act.put, Array.getElem?_setIfInBounds]; rw [if_neg hb]; exact hy, Den.mono X.pre _ _ hd⟩
    · exact h.elim

end Go.Sy

