import Derived.Test.YtmjpidjdbofdjaaGreatYE
import Derived.MapKept
/- Sy, part F: all operations that call nothing. -/
set_option linter.unusedVariables false
set_option linter.unusedSimpArgs false
namespace Go.Sy
open Go

/-! ### Bounds -/
def bnd (x : Option SV) (dflt hi : Nat) (k : Nat → Prop) : Prop :=
  match x with
  | none => k dflt
  | some (.v (.int _ z)) => inb z (hi + 1) k
  | _ => False
def evo (E : Env) : Option Operand → Option (Option SV)
  | none => some none
  | some x => match ev E x with | some s => some (some s) | none => none
/-- A slice's beginning, moved on. -/
def slA (A : Option Addr) (l es c : Nat) : Option Addr := if c = l then A else A.map (·.add (l * es))
def bt (s : ByteArray) (i : Nat) : Int := ((s.data[i]?).getD 0).toNat

/-- Structs and arrays, held side by side: whoever proves says how they compare. -/
structure AggEq (P : Program) (op : BinOp) (t : TypeId) (l m : List SV) (k : Bool → Prop) : Prop where
  ex : ∃ b : Bool, (∀ β w ox oy xs ys, DenL β l xs → DenL β m ys → (do eqGuard op t ox oy (.agg xs.toArray) (.agg ys.toArray); binOp op t (.agg xs.toArray) (.agg ys.toArray) : Sem Value).run P w = .ok (.bool b) w) ∧ k b
/-! ### The operations -/
def addBx (H : Hp) (x : Bx) (k : Nat → Hp → Prop) : Prop :=
  match H with
  | ⟨nb, B, rs⟩ => lf (B ++ [x]) fun bs => k nb ⟨nb + 1, bs, rs⟩
theorem addBx_eq {H : Hp} {x : Bx} {k : Nat → Hp → Prop} (h : addBx H x k) : k H.nb { H with nb := H.nb + 1, boxes := H.boxes ++ [x] } := by
  cases H
  simp only [addBx, lf_eq] at h
  exact h
def lenR : List Row → Nat
  | [] => 0
  | _ :: r => lenR r + 1
theorem lenR_eq : ∀ l : List Row, lenR l = l.length
  | [] => rfl
  | _ :: r => by rw [lenR, lenR_eq r]; rfl
def addRow (H : Hp) (r : Row) (k : Nat → Hp → Prop) : Prop :=
  match H with
  | ⟨nb, B, rs⟩ => lf (rs ++ [r]) fun rs' => k (lenR rs) ⟨nb, B, rs'⟩
theorem addRow_eq {H : Hp} {r : Row} {k : Nat → Hp → Prop} (h : addRow H r k) : k H.rows.length { H with rows := H.rows ++ [r] } := by
  cases H
  simp only [addRow, lf_eq, lenR_eq] at h
  exact h
def setBx (H : Hp) (b : Nat) (x : Bx) (k : Hp → Prop) : Prop :=
  match H with
  | ⟨nb, B, rs⟩ => lf (B.set b x) fun bs => k ⟨nb, bs, rs⟩
theorem setBx_eq {H : Hp} {b : Nat} {x : Bx} {k : Hp → Prop} (h : setBx H b x k) : k { H with boxes := H.boxes.set b x } := by
  cases H
  simp only [setBx, lf_eq] at h
  exact h
/-- The bytes of a text, as elements. -/
def bytesSV (s : ByteArray) : List SV := s.data.toList.map fun b => .v (.int .u8 b.toNat)
def bytesV (s : ByteArray) : List Value := s.data.toList.map fun b => .int .u8 b.toNat
/-- A look-up of a number in a map whose keys are known. -/
def lkS (kd : IntKind) (n : Int) : List (Value × SV) → (Option SV → Prop) → Prop
  | [], k => k none
  | (.int kd' m, s) :: r, k => match kindEq kd kd' with
    | true => cnd (decide (n = m)) (k (some s)) (lkS kd n r k)
    | false => False
  | _ :: _, _ => False
def mapI (i : TI) : Option (Nat × Nat) := match i.d with | .map k e => some (k, e) | _ => none
def opS (T : List TI) (P : Program) (op : Op) (E : Env) (H : Hp) (k : SV → Hp → Prop) : Prop :=
  match op with
  | .move x | .assign x => nd (ev E x) fun s => k s H
  | .pick c a b => nd (ev E c) fun s => match s with
    | .v (.bool t) => cnd t (nd (ev E a) fun s => k s H) (nd (ev E b) fun s => k s H)
    | _ => False
  | .alloc e => nd (getT T e) fun i => nd i.zero fun z => lf (z.map .v) fun cs => addBx H (.c cs) fun j H' => k (.loc j 0) H'
  | .box _ x => nd (ev E x) fun s => lf (cells s) fun cs => addBx H (.c cs) fun j H' => k (.loc j 0) H'
  | .build t parts => nd (getT T t) fun i => match i.d with
    | .struct fs => nd i.zero fun z => nd (evParts E parts.toList) fun ps => fillS (.struct fs) (z.map .v) ps fun cs => k (.agg cs) H
    | .array n es ea => nd i.zero fun z => nd (evParts E parts.toList) fun ps => fillS (.array n es ea) (z.map .v) ps fun cs => k (.agg cs) H
    | _ => False
  | .buildSlice t n parts => nd (getT T t) fun i => match i.d with
    | .slice e es eb ea => nd (getT T e) fun ie => nd ie.zero fun z => nd (zel ea z) fun z0 => nd (evParts E parts.toList) fun ps => match Nat.beq z.length es, Nat.ble (n * es) 16777216, Nat.ble n 16777216 with
      | true, true, true => fillE es (repE n z0) ps fun l => match onesE l with | true => k (.lst true es l) H | false => False
      | _, _, _ => False
    | _ => False
  | .load t a => nd (getT T t) fun i => nd (ev E a) fun s => ldS H i s k
  | .store t a x => nd (getT T t) fun i => nd (ev E a) fun s => nd (ev E x) fun y => stS H i s (cells y) k
  | .nilCheck x => nd (ev E x) fun s => match s with
    | .loc i o => k (.loc i o) H
    | .ro cs o => k (.ro cs o) H
    | .optr ri a o => k (.optr ri a o) H
    | .clo (.func f) a c => k (.clo (.func f) a c) H
    | _ => False
  | .binOp op t x y _ => nd (ev E x) fun s => nd (ev E y) fun u => match s, u with
    | .agg l, .agg m => AggEq P op t l m fun b => k (.v (.bool b)) H
    | .v (.bool a), .v (.bool b) => nd (getT T t) fun i => match i.d, op with
      | .bool, .eql => k (.v (.bool (a == b))) H
      | .bool, .neq => k (.v (.bool (!(a == b)))) H
      | _, _ => False
    | .v (.slice A _ _), .v (.slice none 0 0) => nd (getT T t) fun i => match i.d, op with
      | .slice _ _ _ _, .eql => k (.v (.bool A.isNone)) H
      | .slice _ _ _ _, .neq => k (.v (.bool (!A.isNone))) H
      | _, _ => False
    | .own _ A _ _, .v (.slice none 0 0) => nd (getT T t) fun i => match i.d, op with
      | .slice _ _ _ _, .eql => k (.v (.bool A.isNone)) H
      | .slice _ _ _ _, .neq => k (.v (.bool (!A.isNone))) H
      | _, _ => False
    | s, u => binS op s u fun s => k s H
  | .unOp op _ x => nd (ev E x) fun s => unS op s fun s => k s H
  | .convert src dst x => nd (getT T src) fun j => nd (getT T dst) fun i => nd (ev E x) fun s => match i.d, s with
    | .int kd, .v (.int _ n) => k (.v (.int kd (kd.wrap n))) H
    | .string, .v (.string s) => k (.v (.string s)) H
    | .string, .lst _ _ es => match j.d with
      | .slice e _ _ _ => nd (getT T e) fun ie => match ie.d with
        | .int .u8 => ∃ s, es = bytesSV s ∧ k (.v (.string s)) H
        | _ => False
      | _ => False
    | .string, .own ri A n _ => match j.d with
      | .slice e _ _ _ => nd (getT T e) fun ie => match ie.d with
        | .int .u8 => nd (nth H.rows ri) fun r => r.A = A ∧ r.n = n ∧ ∃ s, r.es = bytesSV s ∧ k (.v (.string s)) H
        | _ => False
      | _ => False
    | .slice e _ _ _, .v (.string s) => match j.d with
      | .string => nd (getT T e) fun ie => match ie.d with
        | .int .u8 => s.size ≤ maxLen ∧ k (.lst false 1 (bytesSV s)) H
        | _ => False
      | _ => False
    | _, _ => False
  | .makeFunc f a c => nd (evs E a.toList) fun a => nd (evs E c.toList) fun c => k (.clo f a c) H
  | .makeInterface t x => nd (getT T t) fun i => nd (ev E x) fun s => match i.d with
    | .iface => False
    | _ => k (.ifc t s) H
  | .extract x i => nd (ev E x) fun s => match s with
    | .tup l => nd (nth l i) fun s => k s H
    | _ => False
  | .fieldAddr t x f => nd (getT T t) fun i => match i.d with
    | .struct fs => nd (nth fs f) fun p => match p.2.1 with
      | 0 => False
      | _ + 1 => nd (ev E x) fun s => match s with
        | .loc b o => k (.loc b (o + p.1)) H
        | .ro cs o => k (.ro cs (o + p.1)) H
        | .optr ri a o => k (.optr ri a (o + p.1)) H
        | _ => False
    | _ => False
  | .field t x f => nd (getT T t) fun i => match i.d with
    | .struct fs => nd (nth fs f) fun p => nd (ev E x) fun s => match s with
      | .agg l => match p.2.2 with
        | true => nd (sub l p.1 p.2.1) fun l => lf l fun l => k (.agg l) H
        | false => nd (nth l p.1) fun s => k s H
      | _ => False
    | _ => False
  | .index t x ix => nd (getT T t) fun i => nd (ev E x) fun s => nd (ev E ix) fun y => match i.d, s, y with
    | .array n es ea, .agg l, .v (.int _ z) => inb z n fun m => match ea with
      | true => nd (sub l (m * es) es) fun l => lf l fun l => k (.agg l) H
      | false => nd (nth l (m * es)) fun s => k s H
    | .string, .v (.string s), .v (.int _ z) => inb z s.size fun m => k (.v (.int .u8 (bt s m))) H
    | _, _, _ => False
  | .indexAddr t x ix => nd (getT T t) fun i => nd (ev E x) fun s => nd (ev E ix) fun y => match i.d, s, y with
    | .array n es _, .loc b o, .v (.int _ z) => inb z n fun m => k (.loc b (o + m * es)) H
    | .slice _ es _ _, .lst _ sz l, .v (.int _ z) => inb z l.length fun m => sz = es ∧ nd (nth l m) fun e => lf (cells e) fun cs => k (.ro cs 0) H
    | .slice _ es _ _, .own ri A n _, .v (.int _ z) => inb z n fun m => nd A fun ad => k (.optr ri ad (m * es)) H
    | _, _, _ => False
  | .slice t x lo hi mx => nd (getT T t) fun i => nd (ev E x) fun s => nd (evo E lo) fun lo => nd (evo E hi) fun hi => nd (evo E mx) fun mx => match i.d, s with
    | .string, .v (.string s) => match mx with
      | none => bnd hi s.size s.size fun h => bnd lo 0 h fun l => k (.v (.string (s.extract l h))) H
      | some _ => False
    | .slice _ es _ _, .v (.slice A n c) => match mx with
      | none => bnd hi n c fun h => bnd lo 0 h fun l => k (.v (.slice (slA A l es c) (h - l) (c - l))) H
      | some mx => bnd (some mx) c c fun m => bnd hi n m fun h => bnd lo 0 h fun l => match hi with
        | some _ => k (.v (.slice (slA A l es m) (h - l) (m - l))) H
        | none => False
    | .slice _ es _ _, .lst full sz l0 => sz = es ∧ match mx with
      | none => bnd hi l0.length l0.length fun h => bnd lo 0 h fun l => k (.lst (match hi with | none => full | some _ => false) sz ((l0.drop l).take (h - l))) H
      | some mx => bnd (some mx) l0.length l0.length fun m => bnd hi l0.length m fun h => bnd lo 0 h fun l => match hi with
        | some _ => k (.lst (Nat.beq h m) sz ((l0.drop l).take (h - l))) H
        | none => False
    | _, _ => False
  | .makeMap t r => match r with
    | none => addBx H (.mp []) fun j H' => k (.mref j) H'
    | some x => nd (getT T t) fun i => nd (mapI i) fun _ => nd (ev E x) fun s => match s with
      | .v (.int _ _) => addBx H (.mp []) fun j H' => k (.mref j) H'
      | _ => False
  | .insert t m x y => nd (getT T t) fun i => nd (mapI i) fun p => nd (getT T p.1) fun ik => nd (ev E m) fun s => nd (ev E x) fun sk => nd (ev E y) fun sv => match ik.d, s, sk with
    | .int kd, .mref b, .v (.int kd' z) => match kindEq kd kd' with
      | true => nd (nth H.boxes b) fun bx => match bx with
        | .mp kvs => lkS kd z kvs fun r => match r with
          | none => lf (kvs ++ [(.int kd z, sv)]) fun kvs => setBx H b (.mp kvs) fun H' => k (.v undef) H'
          | some _ => False
        | _ => False
      | false => False
    | _, _, _ => False
  | .lookup t m x ok => nd (getT T t) fun i => nd (mapI i) fun p => nd (getT T p.1) fun ik => nd (getT T p.2) fun ie => nd (ev E m) fun s => nd (ev E x) fun sk => match ik.d, s, sk with
    | .int kd, .mref b, .v (.int kd' z) => match kindEq kd kd' with
      | true => nd (nth H.boxes b) fun bx => match bx with
        | .mp kvs => lkS kd z kvs fun r => match r with
          | some s => match ok with
            | true => k (.tup [s, .v (.bool true)]) H
            | false => k s H
          | none => nd ie.zero fun z => nd (zel ie.zag z) fun s => match ok with
              | true => k (.tup [s, .v (.bool false)]) H
              | false => k s H
        | _ => False
      | false => False
    | _, _, _ => False
  | .makeSlice t n c => nd (getT T t) fun i => match i.d with
    | .slice e es eb ea => nd (getT T e) fun ie => nd ie.zero fun z => nd (zel ea z) fun z0 => nd (ev E n) fun sn => nd (ev E c) fun sc => match sn, sc with
      | .v (.int _ a), .v (.int _ b) => nng a fun n => nng b fun c => (n ≤ c ∧ c * eb ≤ 140737488355328 ∧ c ≤ maxLen ∧ z.length = es ∧ ones (z.map .v) = true) ∧
          ∀ g : Nat, addRow H ⟨some ⟨g, 0, none⟩, n, c, e, es, List.replicate n z0, false⟩ fun ri H' => k (.own ri (some ⟨g, 0, none⟩) n c) H'
      | _, _ => False
    | _ => False
  | _ => False

section
variable {P : Program} {β : Gh} {H : Hp} {w : World}
theorem bnd_run {n b0 : Nat} {E : Env} {a : Act} (R : RepA n b0 β E H a w) {x : Option Operand} {s : Option SV} (hs : evo E x = some s) {dflt hi : Nat} {k : Nat → Prop} (h : bnd s dflt hi k) :
    (∃ m, k m ∧ ∀ code, (match x.map a.eval with | some v => Instr.sliceBound v hi code | none => pure dflt : Sem Nat).run P w = .ok m w) := by
  cases x with
  | none =>
    simp [evo] at hs
    subst hs
    exact ⟨dflt, h, fun _ => rfl⟩
  | some x =>
    simp only [evo] at hs
    split at hs
    · rename_i s' hs'
      injection hs with hs
      subst hs
      have hd := ev_den R hs'
      unfold bnd at h
      split at h
      · rename_i h1; cases h1
      · rename_i kd z h1
        injection h1 with h1
        subst h1
        obtain ⟨h0, h1, h⟩ := inb_elim h
        simp only [Den] at hd
        refine ⟨z.toNat, h, fun code => ?_⟩
        simp only [Option.map_some, hd, Instr.sliceBound, asIntOf, Sem.run_bind, Sem.run_pure, Result.andThen_ok]
        rw [if_pos (by omega)]
        rfl
      · exact h.elim
    · cases hs
theorem bnd_some {s : SV} {d d' hi : Nat} {k : Nat → Prop} (h : bnd (some s) d hi k) : bnd (some s) d' hi k := by
  cases s <;> first | exact h | (rename_i x; cases x <;> exact h)
theorem bnd_run2 {n b0 : Nat} {E : Env} {a : Act} (R : RepA n b0 β E H a w) {x : Option Operand} {s : Option SV} (hs : evo E x = some s) {dflt hi : Nat} (hdh : dflt ≤ hi) {k : Nat → Prop} (h : bnd s dflt hi k) :
    (∃ m, k m ∧ m ≤ hi ∧ ∀ code hi', hi ≤ hi' → (match x.map a.eval with | some v => Instr.sliceBound v hi' code | none => pure dflt : Sem Nat).run P w = .ok m w) := by
  cases x with
  | none =>
    simp [evo] at hs
    subst hs
    exact ⟨dflt, h, hdh, fun _ _ _ => rfl⟩
  | some x =>
    simp only [evo] at hs
    split at hs
    · rename_i s' hs'
      injection hs with hs
      subst hs
      have hd := ev_den R hs'
      unfold bnd at h
      split at h
      · rename_i h1; cases h1
      · rename_i kd z h1
        injection h1 with h1
        subst h1
        obtain ⟨h0, h1, h⟩ := inb_elim h
        simp only [Den] at hd
        refine ⟨z.toNat, h, by omega, fun code hi' hh => ?_⟩
        simp only [Option.map_some, hd, Instr.sliceBound, asIntOf, Sem.run_bind, Sem.run_pure, Result.andThen_ok]
        rw [if_pos (by omega)]
        rfl
      · exact h.elim
    · cases hs
theorem run_part {t : TypeId} {n : Nat} {b : Bool} (h : partOf P t = some (n, b)) {cs : List Value} {o : Nat} {y : Value}
    (hy : (b = true ∧ y = .agg ((cs.drop o).take n).toArray) ∨ (b = false ∧ cs[o]? = some y)) : (part t cs.toArray o).run P w = .ok y w := by
  obtain ⟨i, d, h1, h2, h3, h4⟩ := partOf_eq h
  unfold part
  rw [Sem.run_bind, run_isAgg' h2, Result.andThen_ok, h4]
  rcases hy with ⟨rfl, rfl⟩ | ⟨rfl, hy⟩
  · simp only [if_true, Sem.run_bind, run_sizeOf' h1, Result.andThen_ok, Sem.run_pure, h3]
    congr 2
    simp [List.extract_eq_take_drop]
  · simp [hy]

theorem run_eqnil {t e : TypeId} (w : World) (d : Nat) (A : Option Addr) (n c : Nat) (he : P.underlying t = some (.slice e)) : (Op.equalIn (d + 1) t (.slice A n c) (.slice none 0 0)).run P w = .ok A.isNone w := by
  cases A <;> simp [Op.equalIn, run_underlying he]
theorem bytesSV_den : ∀ {l : List UInt8} {ws : List Value}, DenL β (l.map fun b => SV.v (.int .u8 b.toNat)) ws → ws = l.map fun b => .int .u8 b.toNat
  | [], _, h => h
  | b :: r, _, ⟨y, zs, h1, h2, h3⟩ => by
    simp only [Den] at h1
    rw [h3, h1, bytesSV_den h2]; rfl
theorem cellsL_bytes (s : ByteArray) : cellsL (bytesV s) = bytesV s := by
  unfold bytesV
  induction s.data.toList with
  | nil => rfl
  | cons b r ih => rw [List.map_cons, cellsL_cons, ih]; rfl
theorem foldl_bytes : ∀ (l : List UInt8) (r : ByteArray), (l.map fun b => ((b.toNat : Nat) : Int)).foldl (fun r n => r.push (UInt8.ofNat n.toNat)) r = ⟨r.data ++ l.toArray⟩
  | [], r => by simp
  | b :: l, r => by
    simp only [List.map_cons, List.foldl_cons]
    rw [foldl_bytes l]
    congr 1
    apply Array.ext'
    simp [ByteArray.push]
theorem run_toText {s : ByteArray} {A : Option Addr} {n c : Nat} (hn : n = s.size) (h0 : A = none → n = 0) (hm : ∀ a, A = some a → ∀ (j : Nat) (u : Value), (bytesV s)[j]? = some u → w.cell? (a.add j) = some u) :
    (Conv.bytesToString (.slice A n c)).run P w = .ok (.string s) w := by
  cases A with
  | none =>
    have hz : s.size = 0 := by rw [← hn]; exact h0 rfl
    have : s = ByteArray.empty := by
      obtain ⟨d⟩ := s
      have hd : d.size = 0 := hz
      have : d = #[] := Array.eq_empty_of_size_eq_zero hd
      subst this; rfl
    subst this
    simp [Conv.bytesToString, Sem.run_pure]
  | some a =>
    have h1 := run_loadCells_list (P := P) w a (bytesV s) (hm a rfl)
    have hl : (bytesV s).length = n := by rw [hn]; simp [bytesV]
    rw [hl] at h1
    have e : bytesV s = (s.data.toList.map fun b => ((b.toNat : Nat) : Int)).map (Value.int .u8) := by simp [bytesV]
    rw [e] at h1
    rw [run_bytesToString w a n c _ h1, foldl_bytes]
    congr 2
    obtain ⟨d⟩ := s
    simp [ByteArray.empty, ByteArray.emptyWithCapacity] <;> rfl
theorem desc_bytes {T : List TI} (hT : TabOk T P) {t e es eb : Nat} {ea : Bool} {i ie : TI} (ti : TInfo P t i) (hid : i.d = .slice e es eb ea) (hie : getT T e = some ie) (hed : ie.d = .int .u8) :
    ti.desc = .slice e ∧ P.underlying e = some (.int .u8) := by
  obtain ⟨te⟩ := hT.get hie
  have htd := ti.d
  rw [hid] at htd
  unfold tdOf at htd
  split at htd <;> try (first | (simp at htd; done) | (split at htd <;> simp at htd; done))
  rename_i e' hdesc
  split at htd
  case h_2 => cases htd
  rename_i p ii hp hii
  obtain ⟨sz, b⟩ := p
  simp at htd
  obtain ⟨rfl, _⟩ := htd
  refine ⟨hdesc, ?_⟩
  have hed' := te.d
  rw [hed] at hed'
  unfold tdOf at hed'
  split at hed' <;> try (first | (simp at hed'; done) | (split at hed' <;> simp at hed'; done))
  rename_i kd' hdesc'
  simp at hed'
  rw [te.und, hdesc', hed']
theorem desc_string {t : Nat} {i : TI} (ti : TInfo P t i) (hid : i.d = .string) : ti.desc = .string := by
  have htd := ti.d
  rw [hid] at htd
  unfold tdOf at htd
  split at htd <;> try (first | (simp at htd; done) | (split at htd <;> simp at htd; done))
  rename_i hdesc
  exact hdesc
theorem lkS_run {kd : IntKind} {z : Int} : ∀ {kvs : List (Value × SV)} {es : List MapEntry} {c : Option SV → Prop} (i : Nat), DenM β kvs es → lkS kd z kvs c →
    ∃ r, c r ∧ match r with
      | none => Instr.findNow (.int kd) (.int kd z) es i = some none
      | some s => ∃ j v, Instr.findNow (.int kd) (.int kd z) es i = some (some (j, v)) ∧ Den β s v
  | [], es, c, i, hd, h => by
    simp only [DenM] at hd
    subst hd
    exact ⟨none, h, rfl⟩
  | (key, s) :: r, es, c, i, hd, h => by
    obtain ⟨e, zs, h1, h2, h3, rfl⟩ := hd
    cases key <;> try exact h.elim
    rename_i kd' m
    simp only [lkS] at h
    split at h
    case h_2 => exact h.elim
    rename_i hk
    have hk := kindEq_eq hk
    subst hk
    rcases cnd_elim h with ⟨hz, h⟩ | ⟨hz, h⟩
    · have hz := of_decide_eq_true hz
      exact ⟨some s, h, i, e.val, by simp [Instr.findNow, Instr.sameNow, h1, hz], h2⟩
    · have hz := of_decide_eq_false hz
      obtain ⟨r', h4, h5⟩ := lkS_run (i + 1) h3 h
      refine ⟨r', h4, ?_⟩
      have e1 : Instr.findNow (.int kd) (.int kd z) (e :: zs) i = Instr.findNow (.int kd) (.int kd z) zs (i + 1) := by
        simp [Instr.findNow, Instr.sameNow, h1, beq_eq_false_iff_ne.2 hz]
      rw [e1]; exact h5
theorem DenM.append {s : SV} {v k : Value} {n : Nat} (hs : Den β s v) : ∀ {l : List (Value × SV)} {es : List MapEntry}, DenM β l es → DenM β (l ++ [(k, s)]) (es ++ [{ key := k, val := v, born := n }])
  | [], es, h => by simp only [DenM] at h; subst h; exact ⟨_, [], rfl, hs, rfl, rfl⟩
  | (k', s') :: r, es, h => by
    obtain ⟨e, zs, h1, h2, h3, rfl⟩ := h
    exact ⟨e, _, h1, h2, h3.append hs, rfl⟩
theorem desc_map {t k e : Nat} {i : TI} (ti : TInfo P t i) (h : mapI i = some (k, e)) : ti.desc = .map k e := by
  unfold mapI at h
  split at h
  case h_2 => cases h
  rename_i k' e' hid
  simp at h
  obtain ⟨rfl, rfl⟩ := h
  have htd := ti.d
  rw [hid] at htd
  unfold tdOf at htd
  split at htd <;> try (first | (simp at htd; done) | (split at htd <;> simp at htd; done))
  rename_i hdesc
  simp at htd
  rw [hdesc, htd.1, htd.2]
theorem desc_int {t : Nat} {i : TI} {kd : IntKind} (ti : TInfo P t i) (hid : i.d = .int kd) : P.underlying t = some (.int kd) := by
  have htd := ti.d
  rw [hid] at htd
  unfold tdOf at htd
  split at htd <;> try (first | (simp at htd; done) | (split at htd <;> simp at htd; done))
  rename_i kd' hdesc
  simp at htd
  rw [ti.und, hdesc, htd]
theorem opS_goes {T : List TI} (hT : TabOk T P) {n b0 : Nat} {E : Env} {a : Act} (R : RepA n b0 β E H a w) {o : Oper} {k : SV → Hp → Prop} (h : opS T P o.op E H k) :
    Goes P β H w (execOp a.eval o) k := by
  unfold execOp
  unfold opS at h
  split at h
  · -- move
    rename_i op x he
    rw [he]
    replace h := nd_elim h
    obtain ⟨s, hs, h⟩ := h
    exact .stay R.rep rfl (ev_den R hs) h
  · rename_i op x he
    rw [he]
    replace h := nd_elim h
    obtain ⟨s, hs, h⟩ := h
    exact .stay R.rep rfl (ev_den R hs) h
  · -- pick
    rename_i op c x y he
    rw [he]
    replace h := nd_elim h
    obtain ⟨s, hs, h⟩ := h
    have hd := ev_den R hs
    split at h
    · simp only [Den] at hd
      rcases cnd_elim h with ⟨rfl, h⟩ | ⟨rfl, h⟩
      · replace h := nd_elim h
        obtain ⟨u, hu, h⟩ := h
        exact .stay R.rep (by simp [hd, asBool]) (ev_den R hu) h
      · replace h := nd_elim h
        obtain ⟨u, hu, h⟩ := h
        exact .stay R.rep (by simp [hd, asBool]) (ev_den R hu) h
    · exact h.elim
  · -- alloc
    rename_i op e he
    rw [he]
    replace h := nd_elim h
    obtain ⟨i, hi, h⟩ := h
    replace h := nd_elim h
    obtain ⟨z, hz, h⟩ := h
    rw [lf_eq] at h
    replace h := addBx_eq h
    obtain ⟨ti⟩ := hT.get hi
    rw [ti.zero] at hz
    obtain ⟨z', hz', rfl⟩ := Option.map_eq_some_iff.1 hz
    obtain ⟨R', X'⟩ := R.rep.new (DenL.plain β z'.cells.toList) e
    refine ⟨_, _, _, .loc H.nb 0, _, .inl ?_, ⟨w.heap.size, ?_, rfl⟩, R', X', h⟩
    · simp [Instr.alloc, zeroValue, typeInfo, ti.info, hz', newVar, newRow, newObj, Sem.run]
    · rw [R.rep.nb, ← R.rep.len]; simp
  · -- box
    rename_i op e x he
    rw [he]
    replace h := nd_elim h
    obtain ⟨s, hs, h⟩ := h
    rw [lf_eq] at h
    replace h := addBx_eq h
    have hd := ev_den R hs
    obtain ⟨R', X'⟩ := R.rep.new (den_cells hd) e
    refine ⟨_, _, _, .loc H.nb 0, _, .inl ?_, ⟨w.heap.size, ?_, rfl⟩, R', X', h⟩
    · simp [Instr.box, newVar, newRow, newObj, Sem.run]
    · rw [R.rep.nb, ← R.rep.len]; simp
  · -- build
    rename_i op t parts he
    rw [he]
    replace h := nd_elim h
    obtain ⟨i, hi, h⟩ := h
    obtain ⟨ti⟩ := hT.get hi
    have htd := ti.d
    have hpl : ∀ (d : TD) (z : Value) (ps : List (Nat × SV)) (k' : List SV → Prop), ti.ti.zero = some z → evParts E parts.toList = some ps → fillS d (z.cells.toList.map .v) ps k' →
        ∃ cs xs, k' cs ∧ DenL β cs xs ∧ Instr.fill (place d) z.cells (parts.toList.map fun x => (x.1, a.eval x.2)) = some xs.toArray := by
      intro d z ps k' hz hps hf
      obtain ⟨h1, h2⟩ := evParts_den R hps
      obtain ⟨cs, xs, h3, h4, h5⟩ := fillS_fill h1 h2 (DenL.plain β z.cells.toList) hf
      exact ⟨cs, xs, h3, h4, by simpa using h5⟩
    have fin : ∀ (d : TD) (z : Value) (ps : List (Nat × SV)), ti.ti.zero = some z → evParts E parts.toList = some ps → i.d = d → (∀ vs, P.built t vs = Instr.fill (place d) z.cells vs) →
        fillS d (z.cells.toList.map .v) ps (fun cs => k (.agg cs) H) → Goes P β H w (do pure (.value (← Instr.build t (parts.map fun (i, x) => (i, a.eval x))))) k := by
      intro d z ps hz hps hid hb hf
      obtain ⟨cs, xs, h3, h4, h5⟩ := hpl d z ps _ hz hps hf
      refine .stay R.rep (y := .agg xs.toArray) (s := .agg cs) ?_ ⟨xs, h4, rfl⟩ h3
      have := run_build (P := P) w t (parts.map fun (i, x) => (i, a.eval x)) xs.toArray (by rw [hb]; rw [← h5]; congr 1; simp)
      simp only [Sem.run_bind, this, Result.andThen_ok, Sem.run_pure]
    split at h
    · rename_i fs hid
      replace h := nd_elim h
      obtain ⟨z, hz, h⟩ := h
      replace h := nd_elim h
      obtain ⟨ps, hps, h⟩ := h
      rw [ti.zero] at hz
      obtain ⟨z', hz', rfl⟩ := Option.map_eq_some_iff.1 hz
      refine fin _ z' ps hz' hps hid ?_ h
      intro vs
      rw [hid] at htd
      unfold tdOf at htd
      split at htd <;> try (first | (simp at htd; done) | (split at htd <;> simp at htd; done))
      rename_i fields hdesc
      split at htd
      · rename_i l hl
        simp at htd
        subst htd
        unfold Program.built
        simp only [ti.info, ti.und, hdesc, hz', fieldsOf_mapM hl]
        congr 1
        funext j
        simp only [place, nth_eq]
        simp
        cases l[j]? <;> rfl
      · cases htd
    · rename_i n' es ea hid
      replace h := nd_elim h
      obtain ⟨z, hz, h⟩ := h
      replace h := nd_elim h
      obtain ⟨ps, hps, h⟩ := h
      rw [ti.zero] at hz
      obtain ⟨z', hz', rfl⟩ := Option.map_eq_some_iff.1 hz
      refine fin _ z' ps hz' hps hid ?_ h
      intro vs
      rw [hid] at htd
      unfold tdOf at htd
      split at htd <;> try (first | (simp at htd; done) | (split at htd <;> simp at htd; done))
      rename_i e hdesc
      split at htd
      · rename_i p hp
        obtain ⟨sz, b⟩ := p
        obtain ⟨ie, de, h1, h2, h3, h4⟩ := partOf_eq hp
        simp at htd
        obtain ⟨rfl, rfl, rfl⟩ := htd
        unfold Program.built
        simp only [ti.info, ti.und, hdesc, hz', h1, h3]
        rfl
      · cases htd
    · exact h.elim
  · -- buildSlice
    rename_i op t n' parts he
    rw [he]
    replace h := nd_elim h
    obtain ⟨i, hi, h⟩ := h
    obtain ⟨ti⟩ := hT.get hi
    have htd := ti.d
    split at h
    case h_2 => exact h.elim
    rename_i e es eb ea hid
    replace h := nd_elim h
    obtain ⟨ie, hie, h⟩ := h
    obtain ⟨te⟩ := hT.get hie
    replace h := nd_elim h
    obtain ⟨z, hz, h⟩ := h
    replace h := nd_elim h
    obtain ⟨z0, hz0, h⟩ := h
    replace h := nd_elim h
    obtain ⟨ps, hps, h⟩ := h
    rw [te.zero] at hz
    obtain ⟨z', hz', rfl⟩ := Option.map_eq_some_iff.1 hz
    split at h
    case h_2 => exact h.elim
    rename_i hb1 hb2 hb3
    have hzs : z'.cells.size = es := by simpa using Nat.eq_of_beq_eq_true hb1
    have hle := Nat.le_of_ble_eq_true hb2
    have hle3 := Nat.le_of_ble_eq_true hb3
    have hdesc : ti.desc = .slice e ∧ te.ti.size = es := by
      rw [hid] at htd
      unfold tdOf at htd
      split at htd <;> try (first | (simp at htd; done) | (split at htd <;> simp at htd; done))
      rename_i e' hdesc
      split at htd
      · rename_i p ii hp hii
        obtain ⟨sz, b⟩ := p
        obtain ⟨ie', de, h1, h2, h3, h4⟩ := partOf_eq hp
        simp at htd
        obtain ⟨rfl, rfl, rfl, rfl⟩ := htd
        refine ⟨hdesc, ?_⟩
        have := te.info
        rw [h1] at this
        rw [← Option.some.inj this, h3]
      · cases htd
    obtain ⟨h1, h2⟩ := evParts_den R hps
    obtain ⟨u0, hu0, hu0c⟩ := zel_den (β := β) hz0
    rw [repE_eq] at h
    have hus : ∀ u ∈ List.replicate n' u0, u.cells.size = es := fun u hu => by rw [(List.mem_replicate.1 hu).2, hu0c, hzs]
    obtain ⟨l', ws', h3, h4, h5, h6, h7⟩ := fillE_fill h1 h2 (DenL.rep hu0 n') hus h
    split at h3
    case h_2 => exact h3.elim
    rename_i hone
    obtain ⟨R', X'⟩ := R.rep.pubNew (cellsL ws') e
    rw [List.length_replicate] at h6
    refine ⟨_, _, _, .lst true es l', H, .inl ?_, ⟨some ⟨w.heap.size, 0, none⟩, n', n', ws', DenL.mono X'.pre _ _ h4, slOk_new h6 (Nat.le_refl _) (by simp only [maxLen]; omega) (fun _ => rfl) h5 (onesE_cell hone h4) _ (fun _ _ h => h), rfl⟩, R', X', h3⟩
    have hsz : (sizeOf e).run P w = .ok es w := by simp [sizeOf, typeInfo, te.info, hdesc.2]
    have hfill : Instr.fill (fun i => some (i * es, es)) ((Array.range (n' * es)).map ((if n' * es = 0 then (#[] : Array Value) else z'.cells)[· % (if n' * es = 0 then (#[] : Array Value) else z'.cells).size]!))
        (parts.map fun (i, x) => (i, a.eval x)).toList = some (cellsL ws').toArray := by
      have e1 : ((Array.range (n' * es)).map ((if n' * es = 0 then (#[] : Array Value) else z'.cells)[· % (if n' * es = 0 then (#[] : Array Value) else z'.cells).size]!)) = (cellsL (List.replicate n' u0)).toArray := by
        rw [cellsL_rep, hu0c]
        by_cases h0 : n' * es = 0
        · rw [if_pos h0, h0]
          have : (List.replicate n' z'.cells.toList).flatten = [] := by
            apply List.eq_nil_of_length_eq_zero
            simpa [List.length_flatten, hzs] using h0
          rw [this]; simp
        · rw [if_neg h0, ← madeCells_eq, hzs]
      rw [e1]
      have e3 : (parts.map fun (i, x) => (i, a.eval x)).toList = parts.toList.map fun x => (x.1, a.eval x.2) := by simp
      rw [e3]
      exact h7
    by_cases h0 : n' * es = 0
    · simp only [if_pos h0] at hfill
      simp only [Instr.buildSlice, Sem.run_bind, ti.run_und, Result.andThen_ok, hdesc.1, hsz]
      rw [if_neg (by omega)]
      simp only [if_pos h0, Sem.run_bind, Sem.run_pure, Result.andThen_ok, hfill]
      simp [newRow, newObj, Sem.run]
    · simp only [if_neg h0] at hfill
      have hzr : (zeroValue e).run P w = .ok z' w := by simp [zeroValue, typeInfo, te.info, hz']
      simp only [Instr.buildSlice, Sem.run_bind, ti.run_und, Result.andThen_ok, hdesc.1, hsz]
      rw [if_neg (by omega)]
      simp only [if_neg h0, Sem.run_bind, Sem.run_pure, Result.andThen_ok, hzr, hfill]
      simp [newRow, newObj, Sem.run]
  · -- load
    rename_i op t x he
    rw [he]
    replace h := nd_elim h
    obtain ⟨i, hi, h⟩ := h
    replace h := nd_elim h
    obtain ⟨s, hs, h⟩ := h
    obtain ⟨ti⟩ := hT.get hi
    obtain ⟨y, s', h1, h2, h3⟩ := ldS_run R.rep ti (ev_den R hs) h
    exact .stay R.rep (by simp only [Sem.run_bind, h1, Result.andThen_ok, Sem.run_pure]) h2 h3
  · -- store
    rename_i op t x y he
    rw [he]
    replace h := nd_elim h
    obtain ⟨i, hi, h⟩ := h
    replace h := nd_elim h
    obtain ⟨s, hs, h⟩ := h
    replace h := nd_elim h
    obtain ⟨s2, hs2, h⟩ := h
    obtain ⟨ti⟩ := hT.get hi
    obtain ⟨w', H', h1, h2, h3, h4⟩ := stS_run R.rep ti (ev_den R hs) (ev_den R hs2) h
    exact ⟨undef, w', β, .v undef, H', .inr ⟨by simp only [Sem.run_bind, h1, Result.andThen_ok, Sem.run_pure], rfl⟩, rfl, h2, h3, h4⟩
  · -- nilCheck
    rename_i op x he
    rw [he]
    replace h := nd_elim h
    obtain ⟨s, hs, h⟩ := h
    have hd := ev_den R hs
    split at h
    · obtain ⟨b, hb, hy⟩ := hd
      exact .stay R.rep (y := a.eval x) (by simp [hy]) (by rw [hy]; exact ⟨b, hb, rfl⟩) h
    · have hd' := hd
      obtain ⟨a', ws, h1, h2, hy⟩ := hd
      exact .stay R.rep (y := a.eval x) (by simp [hy]) hd' h
    · have hd' := hd
      simp only [Den] at hd
      exact .stay R.rep (y := a.eval x) (by simp [hd]) hd' h
    · obtain ⟨xs, ys, h1, h2, hy⟩ := hd
      exact .stay R.rep (y := a.eval x) (s := .clo _ _ _) (by simp [hy]) ⟨xs, ys, h1, h2, hy⟩ h
    · exact h.elim
  · -- binOp
    rename_i op' op t x y t' he
    rw [he]
    replace h := nd_elim h
    obtain ⟨s, hs, h⟩ := h
    replace h := nd_elim h
    obtain ⟨u, hu, h⟩ := h
    split at h
    · rename_i l m
      obtain ⟨b, h1, h4⟩ := h
      obtain ⟨xs, hxs, hx⟩ := ev_den R hs
      obtain ⟨ys, hys, hy⟩ := ev_den R hu
      have h1' := h1 β w x y xs ys hxs hys
      refine .plain R.rep (y := .bool b) ?_ h4
      simp only [Sem.run_bind, hx, hy] at h1' ⊢
      rw [h1']; rfl
    · rename_i a' b'
      replace h := nd_elim h
      obtain ⟨i, hi, h⟩ := h
      obtain ⟨ti⟩ := hT.get hi
      have htd := ti.d
      have hx := ev_den R hs
      have hy := ev_den R hu
      simp only [Den] at hx hy
      have fin : i.d = .bool → P.underlying t = some .bool := by
        intro hid
        rw [hid] at htd
        unfold tdOf at htd
        split at htd <;> try (first | (simp at htd; done) | (split at htd <;> simp at htd; done))
        rename_i hdesc
        rw [ti.und, hdesc]
      split at h
      · rename_i hid
        refine .plain R.rep ?_ h
        simp only [Sem.run_bind, hx, hy, eqGuard, binOp, Op.equal, Op.maxDepth]
        rw [show (10000 : Nat) = 9999 + 1 from rfl]
        simp [run_equalIn_bool' _ 9999 t a' b' (fin hid)]
      · rename_i hid
        refine .plain R.rep ?_ h
        simp only [Sem.run_bind, hx, hy, eqGuard, binOp, Op.equal, Op.maxDepth]
        rw [show (10000 : Nat) = 9999 + 1 from rfl]
        simp [run_equalIn_bool' _ 9999 t a' b' (fin hid)]
      · exact h.elim
    · rename_i A n' c'
      replace h := nd_elim h
      obtain ⟨i, hi, h⟩ := h
      obtain ⟨ti⟩ := hT.get hi
      have htd := ti.d
      have hx := ev_den R hs
      have hy := ev_den R hu
      simp only [Den] at hx hy
      have fin : ∀ {e es eb ea}, i.d = .slice e es eb ea → ∃ e, P.underlying t = some (.slice e) := by
        intro e es eb ea hid
        rw [hid] at htd
        unfold tdOf at htd
        split at htd <;> try (first | (simp at htd; done) | (split at htd <;> simp at htd; done))
        rename_i e' hdesc
        exact ⟨e', by rw [ti.und, hdesc]⟩
      split at h
      · rename_i hid
        obtain ⟨e, he⟩ := fin hid
        refine .plain R.rep ?_ h
        simp only [Sem.run_bind, hx, hy, eqGuard, binOp]
        simp only [Op.equal, Op.maxDepth]
        rw [show (10000 : Nat) = 9999 + 1 from rfl]
        simp [run_eqnil w 9999 A _ _ he]
      · rename_i hid
        obtain ⟨e, he⟩ := fin hid
        refine .plain R.rep ?_ h
        simp only [Sem.run_bind, hx, hy, eqGuard, binOp]
        simp only [Op.equal, Op.maxDepth]
        rw [show (10000 : Nat) = 9999 + 1 from rfl]
        simp [run_eqnil w 9999 A _ _ he]
      · exact h.elim
    · rename_i ri0 A n' c'
      replace h := nd_elim h
      obtain ⟨i, hi, h⟩ := h
      obtain ⟨ti⟩ := hT.get hi
      have htd := ti.d
      have hx := ev_den R hs
      have hy := ev_den R hu
      simp only [Den] at hx hy
      have fin : ∀ {e es eb ea}, i.d = .slice e es eb ea → ∃ e, P.underlying t = some (.slice e) := by
        intro e es eb ea hid
        rw [hid] at htd
        unfold tdOf at htd
        split at htd <;> try (first | (simp at htd; done) | (split at htd <;> simp at htd; done))
        rename_i e' hdesc
        exact ⟨e', by rw [ti.und, hdesc]⟩
      split at h
      · rename_i hid
        obtain ⟨e, he⟩ := fin hid
        refine .plain R.rep ?_ h
        simp only [Sem.run_bind, hx, hy, eqGuard, binOp]
        simp only [Op.equal, Op.maxDepth]
        rw [show (10000 : Nat) = 9999 + 1 from rfl]
        simp [run_eqnil w 9999 A _ _ he]
      · rename_i hid
        obtain ⟨e, he⟩ := fin hid
        refine .plain R.rep ?_ h
        simp only [Sem.run_bind, hx, hy, eqGuard, binOp]
        simp only [Op.equal, Op.maxDepth]
        rw [show (10000 : Nat) = 9999 + 1 from rfl]
        simp [run_eqnil w 9999 A _ _ he]
      · exact h.elim
    obtain ⟨z, h1, h2⟩ := binS_run (P := P) (w := w) (ev_den R hs) (ev_den R hu) h t x y
    refine .plain R.rep (y := z) ?_ h2
    have h1' : (do eqGuard op t x y (a.eval x) (a.eval y); binOp op t (a.eval x) (a.eval y) : Sem Value).run P w = .ok z w := h1
    simp only [Sem.run_bind] at h1' ⊢
    rw [h1']; rfl
  · -- unOp
    rename_i op' op t x he
    rw [he]
    replace h := nd_elim h
    obtain ⟨s, hs, h⟩ := h
    obtain ⟨z, h1, h2⟩ := unS_run (P := P) (w := w) (ev_den R hs) h
    exact .plain R.rep (y := z) (by simp only [Sem.run_bind, h1, Result.andThen_ok, Sem.run_pure]) h2
  · -- convert
    rename_i op src dst x he
    rw [he]
    replace h := nd_elim h
    obtain ⟨_, hj, h⟩ := h
    replace h := nd_elim h
    obtain ⟨i, hi, h⟩ := h
    replace h := nd_elim h
    obtain ⟨s, hs, h⟩ := h
    have hd := ev_den R hs
    obtain ⟨tj⟩ := hT.get hj
    obtain ⟨ti⟩ := hT.get hi
    have htd := ti.d
    split at h
    · rename_i kd k' nn hid
      simp only [Den] at hd
      have hdesc : ti.desc = .int kd := by
        rw [hid] at htd
        unfold tdOf at htd
        split at htd <;> try (first | (simp at htd; done) | (split at htd <;> simp at htd; done))
        rename_i kd' hdesc
        simp at htd
        rw [hdesc, htd]
      refine .plain R.rep ?_ h
      simp only [hd, convert, Sem.run_bind, tj.run_und, ti.run_und, Result.andThen_ok, hdesc]
      cases tj.desc <;> simp [Conv.intToInt]
    · rename_i s' hid
      simp only [Den] at hd
      have hdesc : ti.desc = .string := by
        rw [hid] at htd
        unfold tdOf at htd
        split at htd <;> try (first | (simp at htd; done) | (split at htd <;> simp at htd; done))
        rename_i hdesc
        exact hdesc
      refine .plain R.rep ?_ h
      simp only [hd, convert, Sem.run_bind, tj.run_und, ti.run_und, Result.andThen_ok, hdesc]
      cases tj.desc <;> first | rfl | simp
    · rename_i full sz es hid
      split at h
      case h_2 => exact h.elim
      rename_i e es' eb ea hjd
      replace h := nd_elim h
      obtain ⟨ie, hie, h⟩ := h
      split at h
      case h_2 => exact h.elim
      rename_i hed
      obtain ⟨s', rfl, h⟩ := h
      obtain ⟨hjd1, hjd2⟩ := desc_bytes hT tj hjd hie hed
      obtain ⟨A, n', c', ws, h1, h2, hy⟩ := hd
      have hw : ws = bytesV s' := bytesSV_den h1
      subst hw
      refine .plain R.rep (y := .string s') ?_ h
      simp only [hy, convert, Sem.run_bind, tj.run_und, ti.run_und, Result.andThen_ok, hjd1, desc_string ti hid, run_underlying hjd2]
      rw [run_toText (by rw [← h2.len]; simp [bytesV]; rfl) (fun e => (h2.nil e).1) (fun a ha j u hu => (R.rep.g _ _ (h2.mem a ha j u (by rw [cellsL_bytes]; exact hu))).1)]
      rfl
    · rename_i ri A n' c' hid
      split at h
      case h_2 => exact h.elim
      rename_i e es' eb ea hjd
      replace h := nd_elim h
      obtain ⟨ie, hie, h⟩ := h
      split at h
      case h_2 => exact h.elim
      rename_i hed
      replace h := nd_elim h
      obtain ⟨r, hr, hA, hn, s', hs', h⟩ := h
      rw [nth_eq] at hr
      obtain ⟨hjd1, hjd2⟩ := desc_bytes hT tj hjd hie hed
      simp only [Den] at hd
      obtain ⟨ws, h1, h2, h3, h4⟩ := R.rep.rowAt (List.mem_of_getElem? hr)
      rw [hs'] at h1
      have hw : ws = bytesV s' := bytesSV_den h1
      subst hw
      have hl : (bytesV s').length = s'.size := by simp [bytesV] <;> rfl
      refine .plain R.rep (y := .string s') ?_ h
      simp only [hd, convert, Sem.run_bind, tj.run_und, ti.run_und, Result.andThen_ok, hjd1, desc_string ti hid, run_underlying hjd2]
      have h0 : A = none → n' = 0 := by
        intro e0
        obtain ⟨ws', _, _, h7, h8⟩ := R.rep.row r (List.mem_of_getElem? hr)
        rw [← hn]
        split at h8
        · exact (h8.nil (by rw [hA, e0])).1
        · obtain ⟨⟨_, h9⟩, _⟩ := h8
          rcases h9 with ⟨_, h9⟩ | ⟨g, cap, cur, e1, _⟩
          · exact h9
          · rw [hA, e0] at e1; injection e1 with e1; cases e1
      rw [run_toText (by rw [← hl, h3, hn]) h0 (fun a ha j u hu => h4 a (by rw [hA, ha]) j u (by rw [cellsL_bytes]; exact hu))]
      rfl
    · rename_i e es' eb ea s' hid
      split at h
      case h_2 => exact h.elim
      rename_i hjd
      replace h := nd_elim h
      obtain ⟨ie, hie, h⟩ := h
      split at h
      case h_2 => exact h.elim
      rename_i hed
      obtain ⟨hsz, h⟩ := h
      simp only [Den] at hd
      obtain ⟨hid1, hid2⟩ := desc_bytes hT ti hid hie hed
      have hrun := run_bytes_of_string (P := P) w src dst e s' (by rw [tj.und, desc_string tj hjd]) (by rw [ti.und, hid1]) hid2
      have hge := grownCap_ge w s'.size 0 e
      have hcm := grownCap_le_maxLen w s'.size 0 e hsz
      have hbl : (bytesV s').length = s'.size := by simp [bytesV] <;> rfl
      obtain ⟨R', X'⟩ := R.rep.pubAt (w' := w.drew.alloc (.cells (bytesRow s' (grownCap w s'.size 0 e)) e ((bytesRow s' (grownCap w s'.size 0 e)).size, (bytesRow s' (grownCap w s'.size 0 e)).size + 1))) (bytesV s')
        (fun j u hu => by
          unfold bytesRow
          have hlt := (List.getElem?_eq_some_iff.1 hu).1
          rw [Array.getElem?_append_left (by simp [bytesV] at hlt; simpa using hlt)]
          simpa [bytesV] using hu)
        (heap_alloc_new w.drew _) ⟨rfl, rfl, rfl, by simp⟩ (fun k hk => Go.RowKit.Below.heap_alloc w.drew _ _ hk)
      refine ⟨_, _, _, .lst false 1 (bytesSV s'), H, .inl ?_, ⟨some ⟨w.heap.size, 0, none⟩, s'.size, grownCap w s'.size 0 e, bytesV s', ?_, slOk_new hbl hge hcm (fun h => by cases h) ?_ (fun u hu => by rw [cellsL_bytes] at hu; obtain ⟨b, _, rfl⟩ := List.mem_map.1 hu; rfl) _ (fun j u hu => by rw [cellsL_bytes] at hu; exact hu), rfl⟩, R', X', h⟩
      · simp only [hd, Sem.run_bind, hrun, Result.andThen_ok, Sem.run_pure]
      · have : bytesSV s' = (bytesV s').map .v := by simp [bytesSV, bytesV]
        rw [this]; exact DenL.plain _ _
      · intro u hu
        obtain ⟨b, _, rfl⟩ := List.mem_map.1 hu
        rfl
    · exact h.elim
  · -- makeFunc
    rename_i op f xs ys he
    rw [he]
    replace h := nd_elim h
    obtain ⟨l1, hl1, h⟩ := h
    replace h := nd_elim h
    obtain ⟨l2, hl2, h⟩ := h
    refine .stay R.rep (s := .clo f l1 l2) ?_ ⟨_, _, evs_den R hl1, evs_den R hl2, rfl⟩ h
    simp only [Instr.makeFunc, Sem.run_bind, Sem.run_pure, Result.andThen_ok]
    have e : ∀ zs : Array Operand, zs.map a.eval = (zs.toList.map a.eval).toArray := fun zs => by apply Array.ext'; simp
    rw [e, e]
  · -- makeInterface
    rename_i op t x he
    rw [he]
    replace h := nd_elim h
    obtain ⟨i, hi, h⟩ := h
    replace h := nd_elim h
    obtain ⟨s, hs, h⟩ := h
    obtain ⟨ti⟩ := hT.get hi
    have htd := ti.d
    have hd := ev_den R hs
    split at h
    · exact h.elim
    · rename_i hne
      refine .stay R.rep (y := .iface t (a.eval x)) (s := .ifc t s) ?_ ⟨_, hd, rfl⟩ h
      simp only [Instr.makeInterface, Sem.run_bind, ti.run_und, Result.andThen_ok]
      cases hdesc : ti.desc <;> first
        | rfl
        | (rw [hdesc] at htd; simp [tdOf] at htd; exact absurd htd.symm hne)
  · -- extract
    rename_i op x i he
    rw [he]
    replace h := nd_elim h
    obtain ⟨s, hs, h⟩ := h
    have hd := ev_den R hs
    split at h
    · replace h := nd_elim h
      obtain ⟨s', hs', h⟩ := h
      rw [nth_eq] at hs'
      obtain ⟨xs, h1, hy⟩ := hd
      obtain ⟨y, hy1, hd1⟩ := h1.get hs'
      exact .stay R.rep (y := y) (by simp [hy, Instr.extract, hy1]) hd1 h
    · exact h.elim
  · -- fieldAddr
    rename_i op t x f he
    rw [he]
    replace h := nd_elim h
    obtain ⟨i, hi, h⟩ := h
    obtain ⟨ti⟩ := hT.get hi
    have htd := ti.d
    split at h
    case h_2 => exact h.elim
    rename_i fs hid
    replace h := nd_elim h
    obtain ⟨⟨off, sz, b⟩, hp, h⟩ := h
    rw [nth_eq] at hp
    rw [hid] at htd
    unfold tdOf at htd
    split at htd <;> try (first | (simp at htd; done) | (split at htd <;> simp at htd; done))
    rename_i fields hdesc
    split at htd
    case h_2 => cases htd
    rename_i l hl
    have hfs : l = fs := by simpa using htd
    rw [hfs] at hl
    obtain ⟨fld, hf1, hf2, hf3⟩ := fieldsOf_get hl hp
    obtain ⟨fi, fd, h1, h2, h3, h4⟩ := partOf_eq hf3
    split at h
    · exact h.elim
    · rename_i m hm
      have hm : sz = m + 1 := hm
      replace h := nd_elim h
      obtain ⟨s, hs, h⟩ := h
      have hd := ev_den R hs
      have hfld : fields[f]? = some fld := by simpa using hf1
      have hsz : ¬ fi.size = 0 := by omega
      split at h
      · rename_i b' o'
        obtain ⟨bb, hb, hy⟩ := hd
        refine .stay R.rep (y := .pointer (some ⟨bb, o' + off, none⟩)) (s := .loc b' (o' + off)) ?_ ⟨bb, hb, rfl⟩ h
        simp only [hy, Instr.fieldAt, Sem.run_bind, ti.run_und, Result.andThen_ok, hdesc, hfld, Instr.sureAddr, Sem.run_pure, fieldPlace, run_sizeOf' h1, hsz, if_false]
        rw [hf2, addrO]
      · rename_i cs' o'
        obtain ⟨a', ws, h5, h6, hy⟩ := hd
        refine .stay R.rep (y := .pointer (some (a'.add (o' + off)))) (s := .ro cs' (o' + off)) ?_ ⟨a', ws, h5, h6, rfl⟩ h
        simp only [hy, Instr.fieldAt, Sem.run_bind, ti.run_und, Result.andThen_ok, hdesc, hfld, Instr.sureAddr, Sem.run_pure, fieldPlace, run_sizeOf' h1, hsz, if_false]
        rw [hf2, add_add]
      · rename_i ri ad o'
        simp only [Den] at hd
        refine .stay R.rep (y := .pointer (some (ad.add (o' + off)))) (s := .optr ri ad (o' + off)) ?_ rfl h
        simp only [hd, Instr.fieldAt, Sem.run_bind, ti.run_und, Result.andThen_ok, hdesc, hfld, Instr.sureAddr, Sem.run_pure, fieldPlace, run_sizeOf' h1, hsz, if_false]
        rw [hf2, add_add]
      · exact h.elim
  · -- field
    rename_i op t x f he
    rw [he]
    replace h := nd_elim h
    obtain ⟨i, hi, h⟩ := h
    obtain ⟨ti⟩ := hT.get hi
    have htd := ti.d
    split at h
    case h_2 => exact h.elim
    rename_i fs hid
    replace h := nd_elim h
    obtain ⟨⟨off, sz, b⟩, hp, h⟩ := h
    replace h := nd_elim h
    obtain ⟨s, hs, h⟩ := h
    have hd := ev_den R hs
    rw [nth_eq] at hp
    rw [hid] at htd
    unfold tdOf at htd
    split at htd <;> try (first | (simp at htd; done) | (split at htd <;> simp at htd; done))
    rename_i fields hdesc
    split at htd
    case h_2 => cases htd
    rename_i l hl
    have hfs : l = fs := by simpa using htd
    rw [hfs] at hl
    obtain ⟨fld, hf1, hf2, hf3⟩ := fieldsOf_get hl hp
    have hfld : fields[f]? = some fld := by simpa using hf1
    split at h
    case h_2 => exact h.elim
    rename_i cs
    obtain ⟨xs, hxs, hy⟩ := hd
    have hrun : ∀ y, (part fld.type xs.toArray off).run P w = .ok y w → (do pure (.value (← Instr.field t (a.eval x) f)) : Sem Next).run P w = .ok (.value y) w := by
      intro y hpy
      simp only [hy, Instr.field, Sem.run_bind, ti.run_und, Result.andThen_ok, hdesc, hfld, asAgg, Sem.run_pure, hf2, hpy]
    split at h
    · rename_i hb
      replace h := nd_elim h
      obtain ⟨l', hl', h⟩ := h
      rw [lf_eq] at h
      exact .stay R.rep (s := .agg l') (hrun _ (run_part hf3 (.inl ⟨hb, rfl⟩))) ⟨_, hxs.sub hl', rfl⟩ h
    · rename_i hb
      replace h := nd_elim h
      obtain ⟨s', hs', h⟩ := h
      rw [nth_eq] at hs'
      obtain ⟨y, hy1, hd1⟩ := hxs.get hs'
      exact .stay R.rep (hrun _ (run_part hf3 (.inr ⟨hb, hy1⟩))) hd1 h
  · -- index
    rename_i op t x ix he
    rw [he]
    replace h := nd_elim h
    obtain ⟨i, hi, h⟩ := h
    obtain ⟨ti⟩ := hT.get hi
    have htd := ti.d
    replace h := nd_elim h
    obtain ⟨s, hs, h⟩ := h
    replace h := nd_elim h
    obtain ⟨u, hu, h⟩ := h
    have hd := ev_den R hs
    have hdu := ev_den R hu
    split at h
    · rename_i nn es ea cs kd z hid
      replace h := inb_elim h
      obtain ⟨h0, h1, h⟩ := h
      rw [hid] at htd
      unfold tdOf at htd
      split at htd <;> try (first | (simp at htd; done) | (split at htd <;> simp at htd; done))
      rename_i n2 e hdesc
      split at htd
      case h_2 => cases htd
      rename_i p hp
      obtain ⟨sz, b⟩ := p
      have hx : n2 = nn ∧ sz = es ∧ b = ea := by simpa using htd
      obtain ⟨e1, e2, e3⟩ := hx
      obtain ⟨ie, de, hh1, hh2, hh3, hh4⟩ := partOf_eq hp
      obtain ⟨xs, hxs, hy⟩ := hd
      simp only [Den] at hdu
      have hrun : ∀ y, (part e xs.toArray (z.toNat * es)).run P w = .ok y w → (do pure (.value (← Instr.index t (a.eval x) (a.eval ix))) : Sem Next).run P w = .ok (.value y) w := by
        intro y hpy
        simp only [hy, hdu, Instr.index, asIntOf, Sem.run_bind, Sem.run_pure, ti.run_und, Result.andThen_ok, hdesc]
        rw [if_pos (by omega)]
        simp only [Sem.run_bind, run_sizeOf' hh1, Result.andThen_ok, hh3, e2, hpy]
      split at h
      · replace h := nd_elim h
        obtain ⟨l', hl', h⟩ := h
        rw [lf_eq] at h
        exact .stay R.rep (s := .agg l') (hrun _ (run_part hp (.inl ⟨e3, by rw [e2]⟩))) ⟨_, hxs.sub hl', rfl⟩ h
      · replace h := nd_elim h
        obtain ⟨s', hs', h⟩ := h
        rw [nth_eq] at hs'
        obtain ⟨y, hy1, hd1⟩ := hxs.get hs'
        exact .stay R.rep (hrun _ (run_part hp (.inr ⟨e3, hy1⟩))) hd1 h
    · rename_i ss kd z hid
      replace h := inb_elim h
      obtain ⟨h0, h1, h⟩ := h
      have hdesc : ti.desc = .string := by
        rw [hid] at htd
        unfold tdOf at htd
        split at htd <;> try (first | (simp at htd; done) | (split at htd <;> simp at htd; done))
        rename_i hdesc
        exact hdesc
      simp only [Den] at hd hdu
      refine .plain R.rep ?_ h
      have hlt : z.toNat < ss.size := by omega
      have hb : (ss[z.toNat]? : Option UInt8) = some (ss.data[z.toNat]'hlt) := by
        rw [getElem?_pos ss z.toNat hlt]; rfl
      simp only [hd, hdu, Instr.index, asIntOf, Sem.run_bind, Sem.run_pure, ti.run_und, Result.andThen_ok, hdesc]
      rw [if_pos h0, hb]
      simp only [Sem.run_pure, Result.andThen_ok, bt]
      have hg : ss.data[z.toNat]? = some (ss.data[z.toNat]'hlt) := Array.getElem?_eq_getElem hlt
      rw [hg]
      rfl
    · exact h.elim
  · -- indexAddr
    rename_i op t x ix he
    rw [he]
    replace h := nd_elim h
    obtain ⟨i, hi, h⟩ := h
    obtain ⟨ti⟩ := hT.get hi
    have htd := ti.d
    replace h := nd_elim h
    obtain ⟨s, hs, h⟩ := h
    replace h := nd_elim h
    obtain ⟨u, hu, h⟩ := h
    have hd := ev_den R hs
    have hdu := ev_den R hu
    split at h
    · rename_i nn es ea b' o' kd z hid
      replace h := inb_elim h
      obtain ⟨h0, h1, h⟩ := h
      rw [hid] at htd
      unfold tdOf at htd
      split at htd <;> try (first | (simp at htd; done) | (split at htd <;> simp at htd; done))
      rename_i n2 e hdesc
      split at htd
      case h_2 => cases htd
      rename_i p hp
      obtain ⟨sz, b⟩ := p
      have hx : n2 = nn ∧ sz = es ∧ b = ea := by simpa using htd
      obtain ⟨e1, e2, e3⟩ := hx
      obtain ⟨ie, de, hh1, hh2, hh3, hh4⟩ := partOf_eq hp
      obtain ⟨bb, hb, hy⟩ := hd
      simp only [Den] at hdu
      refine .stay R.rep (y := .pointer (some ⟨bb, o' + z.toNat * es, none⟩)) (s := .loc b' (o' + z.toNat * es)) ?_ ⟨bb, hb, rfl⟩ h
      simp only [hy, hdu, Instr.indexAt, asIntOf, Sem.run_bind, Sem.run_pure, ti.run_und, Result.andThen_ok, hdesc, Instr.sureAddr]
      rw [if_pos (by omega)]
      simp only [Sem.run_bind, run_sizeOf' hh1, Result.andThen_ok, hh3, e2, Sem.run_pure, addrO]
    · rename_i ee es eb ea full sz l kd z hid
      replace h := inb_elim h
      obtain ⟨h0, h1, hsz, h⟩ := h
      subst hsz
      replace h := nd_elim h
      obtain ⟨el, hel, h⟩ := h
      rw [lf_eq] at h
      rw [nth_eq] at hel
      have hdesc : ∃ e, ti.desc = .slice e ∧ ∃ b, partOf P e = some (sz, b) := by
        rw [hid] at htd
        unfold tdOf at htd
        split at htd <;> try (first | (simp at htd; done) | (split at htd <;> simp at htd; done))
        rename_i e hdesc
        split at htd
        case h_2 => cases htd
        rename_i p ie' hp hie
        obtain ⟨sz2, b⟩ := p
        have hx : e = ee ∧ sz2 = sz ∧ ie'.bytes = eb ∧ b = ea := by simpa using htd
        exact ⟨e, hdesc, b, by rw [hp, hx.2.1]⟩
      obtain ⟨e, hdesc, bb, hp⟩ := hdesc
      obtain ⟨ie, de, hh1, hh2, hh3, hh4⟩ := partOf_eq hp
      obtain ⟨A, n', c', ws, h2, h3, hy⟩ := hd
      simp only [Den] at hdu
      obtain ⟨u, hu, hdu2⟩ := h2.get hel
      have hwl := h2.length
      have hlt : z.toNat < ws.length := (List.getElem?_eq_some_iff.1 hu).1
      cases A with
      | none => have h4 := (h3.nil rfl).1; have h5 := h3.len; omega
      | some ad =>
      refine .stay R.rep (y := .pointer (some (ad.add (z.toNat * sz)))) (s := .ro (cells el) 0) ?_ ⟨ad.add (z.toNat * sz), _, den_cells hdu2, fun j x hx => ?_, by rw [add_zero]⟩ h
      · have hn : n' = l.length := by rw [← h3.len, hwl]
        simp only [hy, hdu, Instr.indexAt, asIntOf, Sem.run_bind, Sem.run_pure, ti.run_und, Result.andThen_ok, hdesc]
        rw [if_pos (by omega)]
        simp only [Sem.run_bind, run_sizeOf' hh1, Result.andThen_ok, hh3, Sem.run_pure]
      · rw [add_add]
        exact h3.mem ad rfl _ _ (cellsL_get h3.sz hu hx)
    · rename_i ee es eb ea ri A n' c' kd z hid
      replace h := inb_elim h
      obtain ⟨h0, h1, h⟩ := h
      replace h := nd_elim h
      obtain ⟨ad, hA, h⟩ := h
      have hdesc : ∃ e, ti.desc = .slice e ∧ ∃ b, partOf P e = some (es, b) := by
        rw [hid] at htd
        unfold tdOf at htd
        split at htd <;> try (first | (simp at htd; done) | (split at htd <;> simp at htd; done))
        rename_i e hdesc
        split at htd
        case h_2 => cases htd
        rename_i p ie' hp hie
        obtain ⟨sz, b⟩ := p
        have hx : e = ee ∧ sz = es ∧ ie'.bytes = eb ∧ b = ea := by simpa using htd
        exact ⟨e, hdesc, b, by rw [hp, hx.2.1]⟩
      obtain ⟨e, hdesc, bb, hp⟩ := hdesc
      obtain ⟨ie, de, hh1, hh2, hh3, hh4⟩ := partOf_eq hp
      simp only [Den] at hd hdu
      refine .stay R.rep (y := .pointer (some (ad.add (z.toNat * es)))) (s := .optr ri ad (z.toNat * es)) ?_ rfl h
      simp only [hd, hA, hdu, Instr.indexAt, asIntOf, Sem.run_bind, Sem.run_pure, ti.run_und, Result.andThen_ok, hdesc]
      rw [if_pos (by omega)]
      simp only [Sem.run_bind, run_sizeOf' hh1, Result.andThen_ok, hh3, Sem.run_pure]
    · exact h.elim
  · -- slice
    rename_i op t x lo hi mx he
    rw [he]
    replace h := nd_elim h
    obtain ⟨i, hi', h⟩ := h
    obtain ⟨ti⟩ := hT.get hi'
    have htd := ti.d
    replace h := nd_elim h
    obtain ⟨s, hs, h⟩ := h
    replace h := nd_elim h
    obtain ⟨slo, hslo, h⟩ := h
    replace h := nd_elim h
    obtain ⟨shi, hshi, h⟩ := h
    replace h := nd_elim h
    obtain ⟨smx, hsmx, h⟩ := h
    have hd := ev_den R hs
    split at h
    · rename_i ss hid
      have hdesc : ti.desc = .string := by
        rw [hid] at htd
        unfold tdOf at htd
        split at htd <;> try (first | (simp at htd; done) | (split at htd <;> simp at htd; done))
        rename_i hdesc
        exact hdesc
      simp only [Den] at hd
      split at h
      case h_2 => exact h.elim
      have hm : mx = none := by
        cases mx with
        | none => rfl
        | some m => simp only [evo] at hsmx; split at hsmx <;> cases hsmx
      obtain ⟨hh, h, hr1⟩ := bnd_run (P := P) R hshi h
      obtain ⟨ll, h, hr2⟩ := bnd_run (P := P) R hslo h
      refine .plain R.rep ?_ h
      have hr1' := hr1 .sliceAlen
      have hr2' := hr2 .sliceB
      subst hm
      simp only [Option.map_none, Instr.sliceAt, Instr.slice, Sem.run_bind, ti.run_und, Result.andThen_ok, hdesc, hd, Instr.sliceBounds, Option.isSome_none, Bool.false_eq_true, if_false, Sem.run_pure]
      cases hi with
      | none =>
        have e1 : ss.size = hh := by simpa using hr1'
        subst e1
        cases lo with
        | none =>
          have e2 : 0 = ll := by simpa using hr2'
          subst e2
          simp
        | some lo =>
          simp only [Option.map_some] at hr2' ⊢
          simp [hr2']
      | some hi =>
        simp only [Option.map_some] at hr1' ⊢
        simp only [Sem.run_bind, hr1', Result.andThen_ok]
        cases lo with
        | none =>
          have e2 : 0 = ll := by simpa using hr2'
          subst e2
          simp
        | some lo =>
          simp only [Option.map_some] at hr2' ⊢
          simp [hr2']
    · rename_i ee es eb ea A nn cc hid
      have hdesc : ∃ e, ti.desc = .slice e ∧ ∃ b, partOf P e = some (es, b) := by
        rw [hid] at htd
        unfold tdOf at htd
        split at htd <;> try (first | (simp at htd; done) | (split at htd <;> simp at htd; done))
        rename_i e hdesc
        split at htd
        case h_2 => cases htd
        rename_i p ie' hp hie
        obtain ⟨sz, b⟩ := p
        have hx : e = ee ∧ sz = es ∧ ie'.bytes = eb ∧ b = ea := by simpa using htd
        exact ⟨e, hdesc, b, by rw [hp, hx.2.1]⟩
      obtain ⟨e, hdesc, bb, hp⟩ := hdesc
      obtain ⟨ie, de, hh1, hh2, hh3, hh4⟩ := partOf_eq hp
      simp only [Den] at hd
      split at h
      · have hm : mx = none := by
          cases mx with
          | none => rfl
          | some m => simp only [evo] at hsmx; split at hsmx <;> cases hsmx
        obtain ⟨hh, h, hr1⟩ := bnd_run (P := P) R hshi h
        obtain ⟨ll, h, hr2⟩ := bnd_run (P := P) R hslo h
        refine .plain R.rep ?_ h
        have hr1' := hr1 .sliceAcap
        have hr2' := hr2 .sliceB
        subst hm
        simp only [Option.map_none, Instr.sliceAt, Instr.slice, Sem.run_bind, ti.run_und, Result.andThen_ok, hdesc, hd, Instr.sliceBounds, Option.isSome_none, Bool.false_eq_true, if_false, if_true, Sem.run_pure]
        cases hi with
        | none =>
          have e1 : nn = hh := by simpa using hr1'
          subst e1
          cases lo with
          | none =>
            have e2 : 0 = ll := by simpa using hr2'
            subst e2
            simp [run_sizeOf' hh1, hh3, slA]
          | some lo =>
            simp only [Option.map_some] at hr2' ⊢
            simp [hr2', run_sizeOf' hh1, hh3, slA]
        | some hi =>
          simp only [Option.map_some] at hr1' ⊢
          simp only [Sem.run_bind, hr1', Result.andThen_ok]
          cases lo with
          | none =>
            have e2 : 0 = ll := by simpa using hr2'
            subst e2
            simp [run_sizeOf' hh1, hh3, slA]
          | some lo =>
            simp only [Option.map_some] at hr2' ⊢
            simp [hr2', run_sizeOf' hh1, hh3, slA]
      · rename_i smx'
        cases mx with
        | none => simp [evo] at hsmx
        | some mx =>
        obtain ⟨mm, h, hr0⟩ := bnd_run (P := P) R hsmx h
        obtain ⟨hh, h, hr1⟩ := bnd_run (P := P) R hshi h
        obtain ⟨ll, h, hr2⟩ := bnd_run (P := P) R hslo h
        split at h
        case h_2 => exact h.elim
        refine .plain R.rep ?_ h
        cases hi with
        | none => simp [evo] at hshi
        | some hi =>
        have hr0' := hr0 .slice3Acap
        have hr1' := hr1 .slice3B
        have hr2' := hr2 .slice3C
        simp only [Option.map_some] at hr0' hr1'
        simp only [Option.map_some, Instr.sliceAt, Instr.slice, Sem.run_bind, ti.run_und, Result.andThen_ok, hdesc, hd, Instr.sliceBounds, if_true, Sem.run_pure, hr0', hr1', Option.isSome_some]
        cases lo with
        | none =>
          have e2 : 0 = ll := by simpa using hr2'
          subst e2
          simp [run_sizeOf' hh1, hh3, slA]
        | some lo =>
          simp only [Option.map_some] at hr2' ⊢
          simp [hr2', run_sizeOf' hh1, hh3, slA]
    · rename_i ee es eb ea full sz l0 hid
      obtain ⟨hsz, h⟩ := h
      subst hsz
      have hdesc : ∃ e, ti.desc = .slice e ∧ ∃ b, partOf P e = some (sz, b) := by
        rw [hid] at htd
        unfold tdOf at htd
        split at htd <;> try (first | (simp at htd; done) | (split at htd <;> simp at htd; done))
        rename_i e hdesc
        split at htd
        case h_2 => cases htd
        rename_i p ie' hp hie
        obtain ⟨sz2, b⟩ := p
        have hx : e = ee ∧ sz2 = sz ∧ ie'.bytes = eb ∧ b = ea := by simpa using htd
        exact ⟨e, hdesc, b, by rw [hp, hx.2.1]⟩
      obtain ⟨e, hdesc, bb, hp⟩ := hdesc
      obtain ⟨ie, de, hh1, hh2, hh3, hh4⟩ := partOf_eq hp
      obtain ⟨A, nn, cc, ws, g1, g2, hd⟩ := hd
      have hwl := g1.length
      have hnn : nn = l0.length := by rw [← g2.len, hwl]
      have hcc := g2.le
      -- a part of it
      have part : ∀ (hh ll m : Nat) (f : Bool), ll ≤ hh → hh ≤ l0.length → hh ≤ m → m ≤ cc → (f = true → m = hh) →
          Den β (.lst f sz ((l0.drop ll).take (hh - ll))) (.slice (slA A ll sz m) (hh - ll) (m - ll)) := by
        intro hh ll m f e1 e2 e3 e4 e5
        refine ⟨_, _, _, (ws.drop ll).take (hh - ll), (g1.drop ll).take _, ⟨?_, by omega, ?_, ?_, fun hf => by have := e5 hf; omega, ?_, ?_, ?_⟩, rfl⟩
        · simp; omega
        · have := g2.mx; omega
        · intro e0
          unfold slA at e0
          split at e0
          · rename_i he
            have := (g2.nil e0).2
            omega
          · cases A with
            | none => have := (g2.nil rfl).2; omega
            | some ad => cases e0
        · intro x hx
          exact g2.sz x (List.mem_of_mem_drop (List.mem_of_mem_take hx))
        · intro x hx
          have hsz' : ∀ u ∈ ws.drop ll, u.cells.size = sz := fun u hu => g2.sz u (List.mem_of_mem_drop hu)
          rw [cellsL_take _ hsz', cellsL_drop _ g2.sz] at hx
          exact g2.one x (List.mem_of_mem_drop (List.mem_of_mem_take hx))
        · intro ad' had j x hx
          have hsz' : ∀ u ∈ ws.drop ll, u.cells.size = sz := fun u hu => g2.sz u (List.mem_of_mem_drop hu)
          rw [cellsL_take _ hsz', cellsL_drop _ g2.sz, List.getElem?_take, List.getElem?_drop] at hx
          split at hx
          case isFalse => cases hx
          rename_i hjl
          unfold slA at had
          split at had
          · rename_i he
            have : hh - ll = 0 := by omega
            rw [this] at hjl
            omega
          · cases A with
            | none => cases had
            | some ad =>
              injection had with had
              subst had
              rw [add_add]
              exact g2.mem ad rfl _ _ hx
      split at h
      · have hm : mx = none := by
          cases mx with
          | none => rfl
          | some m => simp only [evo] at hsmx; split at hsmx <;> cases hsmx
        subst hm
        obtain ⟨hh, h, hhl, hr1⟩ := bnd_run2 (P := P) R hshi (Nat.le_refl _) h
        obtain ⟨ll, h, hll, hr2⟩ := bnd_run2 (P := P) R hslo (Nat.zero_le _) h
        have hr1' := hr1 .sliceAcap cc (by omega)
        have hr2' := hr2 .sliceB hh (Nat.le_refl _)
        refine .stay R.rep (s := .lst _ sz ((l0.drop ll).take (hh - ll))) ?_ (part hh ll cc _ hll hhl (by omega) (Nat.le_refl _) ?_) h
        · simp only [Option.map_none, Instr.sliceAt, Instr.slice, Sem.run_bind, ti.run_und, Result.andThen_ok, hdesc, hd, Instr.sliceBounds, Option.isSome_none, Bool.false_eq_true, if_false, if_true, Sem.run_pure]
          subst hnn
          cases hi with
          | none =>
            have e1 : l0.length = hh := by simpa using hr1'
            subst e1
            cases lo with
            | none =>
              have e2 : 0 = ll := by simpa using hr2'
              subst e2
              simp [run_sizeOf' hh1, hh3, slA]
            | some lo =>
              simp only [Option.map_some] at hr2' ⊢
              simp [hr2', run_sizeOf' hh1, hh3, slA]
          | some hi =>
            simp only [Option.map_some] at hr1' ⊢
            simp only [Sem.run_bind, hr1', Result.andThen_ok]
            cases lo with
            | none =>
              have e2 : 0 = ll := by simpa using hr2'
              subst e2
              simp [run_sizeOf' hh1, hh3, slA]
            | some lo =>
              simp only [Option.map_some] at hr2' ⊢
              simp [hr2', run_sizeOf' hh1, hh3, slA]
        · intro hf
          cases hi with
          | none =>
            have e1 : l0.length = hh := by simpa using hr1'
            simp [evo] at hshi
            subst hshi
            simp only at hf
            have := g2.full hf
            omega
          | some hi =>
            simp only [evo] at hshi
            split at hshi
            · injection hshi with hshi
              subst hshi
              cases hf
            · cases hshi
      · rename_i smx'
        cases mx with
        | none => simp [evo] at hsmx
        | some mx =>
        obtain ⟨mm, h, hml, hr0⟩ := bnd_run2 (P := P) R hsmx (Nat.le_refl _) h
        cases hi with
        | none =>
          simp [evo] at hshi
          subst hshi
          have h2 : bnd slo 0 l0.length (fun _ => False) := h
          obtain ⟨_, h3, _⟩ := bnd_run2 (P := P) R hslo (Nat.zero_le _) h2
          exact h3.elim
        | some hi =>
        have hsome : ∃ s, shi = some s := by
          simp only [evo] at hshi
          split at hshi
          · injection hshi with hshi; exact ⟨_, hshi.symm⟩
          · cases hshi
        obtain ⟨shi', rfl⟩ := hsome
        have h1 : bnd (some shi') l0.length mm (fun h' => bnd slo 0 h' fun l => k (.lst (Nat.beq h' mm) sz ((l0.drop l).take (h' - l))) H) := h
        have h' := bnd_some (d' := 0) h1
        obtain ⟨hh, h, hhl, hr1⟩ := bnd_run2 (P := P) R hshi (Nat.zero_le _) h'
        obtain ⟨ll, h, hll, hr2⟩ := bnd_run2 (P := P) R hslo (Nat.zero_le _) h
        have hr0' := hr0 .slice3Acap cc (by omega)
        have hr1' := hr1 .slice3B mm (Nat.le_refl _)
        have hr2' := hr2 .slice3C hh (Nat.le_refl _)
        refine .stay R.rep (s := .lst _ sz ((l0.drop ll).take (hh - ll))) ?_ (part hh ll mm _ hll (by omega) hhl (by omega) (fun hf => (Nat.eq_of_beq_eq_true hf).symm)) h
        simp only [Option.map_some] at hr0' hr1'
        simp only [Option.map_some, hd, Instr.sliceAt, Instr.slice, Sem.run_bind, ti.run_und, Result.andThen_ok, hdesc, Instr.sliceBounds, if_true, Sem.run_pure, hr0', hr1', Option.isSome_some]
        cases lo with
        | none =>
          have e2 : 0 = ll := by simpa using hr2'
          subst e2
          simp [run_sizeOf' hh1, hh3, slA]
        | some lo =>
          simp only [Option.map_some] at hr2' ⊢
          simp [hr2', run_sizeOf' hh1, hh3, slA]
    · exact h.elim
  · -- makeMap
    rename_i op t r he
    rw [he]
    have fin : addBx H (.mp []) (fun j H' => k (.mref j) H') → (∀ w', (do pure (.value (← Instr.makeMap t (r.map a.eval))) : Sem Next).run P w' = .ok (.value (.map (some w'.heap.size))) (w'.alloc (.map #[] 0))) →
        Goes P β H w (do pure (.value (← Instr.makeMap t (r.map a.eval)))) k := by
      intro h hrun
      replace h := addBx_eq h
      obtain ⟨R', X'⟩ := R.rep.newBx (x := .mp []) (o := .map #[] 0) ⟨#[], 0, heap_alloc_new _ _, rfl⟩
      exact ⟨_, _, _, .mref H.nb, _, .inl (hrun w), ⟨w.heap.size, by rw [R.rep.nb, ← R.rep.len]; simp, rfl⟩, R', X', h⟩
    cases r with
    | none => exact fin h fun w' => by simp [Instr.makeMap, newObj, Sem.run]
    | some x =>
      replace h := nd_elim h
      obtain ⟨i, hi, h⟩ := h
      obtain ⟨ti⟩ := hT.get hi
      replace h := nd_elim h
      obtain ⟨⟨kt, et⟩, hm, h⟩ := h
      replace h := nd_elim h
      obtain ⟨s, hs, h⟩ := h
      have hd := ev_den R hs
      split at h
      case h_2 => exact h.elim
      simp only [Den] at hd
      exact fin h fun w' => by simp [Instr.makeMap, newObj, Sem.run, ti.run_und, desc_map ti hm, hd, asInt, asIntOf]
  · -- insert
    rename_i op t m x y he
    rw [he]
    replace h := nd_elim h
    obtain ⟨i, hi, h⟩ := h
    obtain ⟨ti⟩ := hT.get hi
    replace h := nd_elim h
    obtain ⟨⟨kt, et⟩, hm, h⟩ := h
    replace h := nd_elim h
    obtain ⟨ik, hik, h⟩ := h
    obtain ⟨tk⟩ := hT.get hik
    replace h := nd_elim h
    obtain ⟨s, hs, h⟩ := h
    replace h := nd_elim h
    obtain ⟨sk, hsk, h⟩ := h
    replace h := nd_elim h
    obtain ⟨sv, hsv, h⟩ := h
    have hd := ev_den R hs
    have hdk := ev_den R hsk
    have hdv := ev_den R hsv
    split at h
    case h_2 => exact h.elim
    rename_i kd b kd' z hkd
    split at h
    case h_2 => exact h.elim
    rename_i hk
    have hk := kindEq_eq hk
    subst hk
    replace h := nd_elim h
    obtain ⟨bx, hbx, h⟩ := h
    rw [nth_eq] at hbx
    split at h
    case h_2 => exact h.elim
    rename_i kvs
    obtain ⟨bb, hb, hy⟩ := hd
    simp only [Den] at hdk
    obtain ⟨es, ck, hh, hM⟩ := R.rep.box b _ bb hbx hb
    obtain ⟨r, h, hr⟩ := lkS_run 0 hM h
    cases r with
    | some s => exact h.elim
    | none =>
    simp only [lf_eq] at h
    replace h := setBx_eq h
    have hlt := (Array.getElem?_eq_some_iff.1 hh).1
    obtain ⟨R', X'⟩ := R.rep.setBx (x' := .mp (kvs ++ [(.int kd z, sv)])) (w' := { w with heap := w.heap.setIfInBounds bb (.map (es.push { key := .int kd z, val := a.eval y, born := ck }) (ck + 1)) }) hbx hb ⟨rfl, rfl, rfl, by simp⟩
      (fun k' hk' => by simp [Ne.symm hk']) ⟨es.push { key := .int kd z, val := a.eval y, born := ck }, ck + 1, by simp [hlt], by simpa using hM.append hdv⟩
    refine ⟨undef, _, β, .v undef, _, .inr ⟨?_, rfl⟩, rfl, R', X', h⟩
    have hI := desc_int tk hkd
    simp only [hy, hdk, Instr.mapUpdate, Sem.run_bind, ti.run_und, Result.andThen_ok, desc_map ti hm, Go.MapKept.run_getObj_map hh]
    rw [show (10000 : Nat) = 9999 + 1 from rfl, Go.MapKept.run_checkKey hI (by simp [Go.MapKept.IsKey])]
    simp only [Result.andThen_ok]
    rw [Go.MapKept.run_findKey hI hr]
    simp [Go.MapKept.run_setObj_map _ hh]
  · -- lookup
    rename_i op t m x ok he
    rw [he]
    replace h := nd_elim h
    obtain ⟨i, hi, h⟩ := h
    obtain ⟨ti⟩ := hT.get hi
    replace h := nd_elim h
    obtain ⟨⟨kt, et⟩, hm, h⟩ := h
    replace h := nd_elim h
    obtain ⟨ik, hik, h⟩ := h
    obtain ⟨tk⟩ := hT.get hik
    replace h := nd_elim h
    obtain ⟨ie, hie, h⟩ := h
    obtain ⟨te⟩ := hT.get hie
    replace h := nd_elim h
    obtain ⟨s, hs, h⟩ := h
    replace h := nd_elim h
    obtain ⟨sk, hsk, h⟩ := h
    have hd := ev_den R hs
    have hdk := ev_den R hsk
    split at h
    case h_2 => exact h.elim
    rename_i kd b kd' z hkd
    split at h
    case h_2 => exact h.elim
    rename_i hk
    have hk := kindEq_eq hk
    subst hk
    replace h := nd_elim h
    obtain ⟨bx, hbx, h⟩ := h
    rw [nth_eq] at hbx
    split at h
    case h_2 => exact h.elim
    rename_i kvs
    obtain ⟨bb, hb, hy⟩ := hd
    simp only [Den] at hdk
    obtain ⟨es, ck, hh, hM⟩ := R.rep.box b _ bb hbx hb
    obtain ⟨r, h, hr⟩ := lkS_run 0 hM h
    have hI := desc_int tk hkd
    have pre : ∀ (f : Value × Bool → Sem Next), True := fun _ => trivial
    cases r with
    | some s =>
      obtain ⟨j, v, hr, hdv⟩ := hr
      have hrun : ∀ ok', (Instr.lookup t (a.eval m) (a.eval x) ok').run P w = .ok (if ok' then .tuple #[v, .bool true] else v) w := by
        intro ok'
        simp only [hy, hdk, Instr.lookup, Sem.run_bind, ti.run_und, Result.andThen_ok, desc_map ti hm, Go.MapKept.run_getObj_map hh, Sem.run_pure]
        rw [show (10000 : Nat) = 9999 + 1 from rfl, Go.MapKept.run_checkKey hI (by simp [Go.MapKept.IsKey])]
        simp only [Result.andThen_ok]
        rw [Go.MapKept.run_findKey hI hr]
        simp
      simp only at h
      split at h
      · exact .stay R.rep (y := .tuple #[v, .bool true]) (s := .tup [s, .v (.bool true)]) (by simp only [Sem.run_bind, hrun, Result.andThen_ok, Sem.run_pure, if_true]) ⟨_, ⟨v, _, hdv, ⟨_, _, rfl, rfl, rfl⟩, rfl⟩, rfl⟩ h
      · exact .stay R.rep (y := v) (by simp only [Sem.run_bind, hrun, Result.andThen_ok, Sem.run_pure, Bool.false_eq_true, if_false]) hdv h
    | none =>
      replace h := nd_elim h
      obtain ⟨zz, hzz, h⟩ := h
      rw [te.zero] at hzz
      obtain ⟨z', hz', rfl⟩ := Option.map_eq_some_iff.1 hzz
      have hzr : ∀ w', (zeroValue et).run P w' = .ok z' w' := fun w' => by simp [zeroValue, typeInfo, te.info, hz']
      have hrun : ∀ ok', (Instr.lookup t (a.eval m) (a.eval x) ok').run P w = .ok (if ok' then .tuple #[z', .bool false] else z') w := by
        intro ok'
        simp only [hy, hdk, Instr.lookup, Sem.run_bind, ti.run_und, Result.andThen_ok, desc_map ti hm, Go.MapKept.run_getObj_map hh, Sem.run_pure]
        rw [show (10000 : Nat) = 9999 + 1 from rfl, Go.MapKept.run_checkKey hI (by simp [Go.MapKept.IsKey])]
        simp only [Result.andThen_ok]
        rw [Go.MapKept.run_findKey hI hr]
        simp [hzr]
      have fin : ∀ s, Den β s z' → (match ok with | true => k (.tup [s, .v (.bool false)]) H | false => k s H) → Goes P β H w (do pure (.value (← Instr.lookup t (a.eval m) (a.eval x) ok))) k := by
        intro s hs h
        cases ok with
        | true => exact .stay R.rep (y := .tuple #[z', .bool false]) (s := .tup [s, .v (.bool false)]) (by simp only [Sem.run_bind, hrun, Result.andThen_ok, Sem.run_pure, if_true]) ⟨_, ⟨z', _, hs, ⟨_, _, rfl, rfl, rfl⟩, rfl⟩, rfl⟩ h
        | false => exact .stay R.rep (y := z') (by simp only [Sem.run_bind, hrun, Result.andThen_ok, Sem.run_pure, Bool.false_eq_true, if_false]) hs h
      replace h := nd_elim h
      obtain ⟨s, hs, h⟩ := h
      refine fin s ?_ (by cases ok <;> exact h)
      have hz2 := te.zag
      rw [hz'] at hz2
      unfold zel at hs
      split at hs
      · rename_i hzt
        rw [hzt] at hz2
        injection hs with hs
        subst hs
        cases z' <;> try (simp at hz2; done)
        exact ⟨_, DenL.plain _ _, by simp [Value.cells]⟩
      · rename_i hzt
        rw [hzt] at hz2
        split at hs
        · rename_i x hx
          split at hs
          · injection hs with hs
            subst hs
            have : z'.cells = #[x] := by rw [← hx]
            cases z' <;> first
              | (simp [Value.cells] at this; exact this)
              | (simp at hz2)
          · cases hs
        · cases hs
  · -- makeSlice
    rename_i op t n' c he
    rw [he]
    replace h := nd_elim h
    obtain ⟨i, hi, h⟩ := h
    obtain ⟨ti⟩ := hT.get hi
    have htd := ti.d
    split at h
    case h_2 => exact h.elim
    rename_i e es eb ea hid
    replace h := nd_elim h
    obtain ⟨ie, hie, h⟩ := h
    obtain ⟨te⟩ := hT.get hie
    replace h := nd_elim h
    obtain ⟨z, hz, h⟩ := h
    replace h := nd_elim h
    obtain ⟨z0, hz0, h⟩ := h
    replace h := nd_elim h
    obtain ⟨sn, hsn, h⟩ := h
    replace h := nd_elim h
    obtain ⟨sc, hsc, h⟩ := h
    have hdn := ev_den R hsn
    have hdc := ev_den R hsc
    split at h
    case h_2 => exact h.elim
    rename_i ka x kb y
    simp only [Den] at hdn hdc
    replace h := nng_elim h
    obtain ⟨hx0, h⟩ := h
    replace h := nng_elim h
    obtain ⟨hy0, ⟨h1, h2, h3, h4, h5⟩, h⟩ := h
    replace h := addRow_eq (h w.heap.size)
    rw [te.zero] at hz
    obtain ⟨z', hz', rfl⟩ := Option.map_eq_some_iff.1 hz
    have hdesc : ti.desc = .slice e ∧ te.ti.size = es ∧ te.ti.bytes = eb := by
      rw [hid] at htd
      unfold tdOf at htd
      split at htd <;> try (first | (simp at htd; done) | (split at htd <;> simp at htd; done))
      rename_i e' hdesc
      split at htd
      · rename_i p ii hp hii
        obtain ⟨sz, b⟩ := p
        obtain ⟨ie', de, g1, g2, g3, g4⟩ := partOf_eq hp
        simp at htd
        obtain ⟨rfl, rfl, rfl, rfl⟩ := htd
        have g5 := te.info
        rw [g1] at g5
        rw [g1] at hii
        exact ⟨hdesc, by rw [← Option.some.inj g5, g3], by rw [← Option.some.inj g5, Option.some.inj hii]⟩
      · cases htd
    obtain ⟨u0, hu0, hu0c⟩ := zel_den (β := β) hz0
    have hzs : z'.cells.size = es := by simpa using h4
    have hrun := run_make (P := P) w t e te.ti z' (by rw [ti.und, hdesc.1]) te.info hz' ka kb x y hx0 (by omega) (by
      rw [hdesc.2.2]
      have h6 : ((eb * y.toNat : Nat) : Int) ≤ 281474976710656 := by
        rw [Nat.mul_comm]; omega
      rw [Int.natCast_mul] at h6
      have h7 : ((y.toNat : Nat) : Int) = y := by omega
      rw [h7] at h6
      exact h6) (by simp only [maxLen] at h3; omega)
    have hus : ∀ u ∈ List.replicate x.toNat u0, u.cells.size = es := fun u hu => by rw [(List.mem_replicate.1 hu).2, hu0c, hzs]
    have hmc : madeCells z'.cells (y.toNat * te.ti.size) = (cellsL (List.replicate y.toNat u0)).toArray := by
      unfold madeCells
      rw [hdesc.2.1, ← hzs, madeCells_eq, cellsL_rep, hu0c]
    obtain ⟨R', X'⟩ := R.rep.rowAdd (r' := ⟨some ⟨w.heap.size, 0, none⟩, x.toNat, y.toNat, e, es, List.replicate x.toNat z0, false⟩) (w' := w.alloc (.cells (madeCells z'.cells (y.toNat * te.ti.size)) e))
      ⟨List.replicate x.toNat u0, DenL.rep hu0 _, hus, by simp, ⟨⟨by rw [cellsL_length hus]; simp, .inr ⟨w.heap.size, y.toNat, _, rfl, Nat.zero_le _, heap_alloc_new _ _, h1, h3, by rw [size_madeCells, hdesc.2.1], by
        rw [hmc]
        have hyr : List.replicate y.toNat u0 = List.replicate x.toNat u0 ++ List.replicate (y.toNat - x.toNat) u0 := by rw [List.replicate_append_replicate]; congr 1; omega
        rw [hyr, cellsL_append]
        simp only []
        rw [List.take_append_of_le_length (by rw [cellsL_length hus]; simp), List.take_of_length_le (by rw [cellsL_length hus]; simp)]⟩⟩, by
        intro u hu
        rw [cellsL_rep, hu0c] at hu
        obtain ⟨l, hl, hu⟩ := List.mem_flatten.1 hu
        rw [(List.mem_replicate.1 hl).2] at hu
        exact ones_cell h5 (DenL.plain β _) u hu⟩⟩
      ⟨rfl, rfl, rfl, by simp⟩ (fun k hk => Go.RowKit.Below.heap_alloc _ _ _ hk) (fun b hb => by simp [Row.blk] at hb; omega)
    exact ⟨_, _, _, .own H.rows.length (some ⟨w.heap.size, 0, none⟩) x.toNat y.toNat, _, .inl (by simp only [hdn, hdc, Sem.run_bind, hrun, Result.andThen_ok, Sem.run_pure]), rfl, R', X', h⟩
  · exact h.elim
end
end Go.Sy

