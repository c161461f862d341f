import Derived.Test.YthdkofhgdmgdcabSxD
import Derived.Laws.StructEq
/- Sx, part E: all operations that call nothing. -/
set_option linter.unusedVariables false
set_option linter.unusedSimpArgs false
namespace Go.Sx
open Go

/-! ### Literals of structs and arrays -/
def evParts (E : Env) : List (Nat × Operand) → Option (List (Nat × SV))
  | [] => some []
  | (i, x) :: r => match ev E x with
    | some s => match evParts E r with
      | some l => some ((i, s) :: l)
      | none => none
    | none => none
def place (d : TD) (i : Nat) : Option (Nat × Nat) :=
  match d with
  | .struct fs => match nth fs i with
    | some (o, n, _) => some (o, n)
    | none => none
  | .array _ es _ => some (i * es, es)
  | .slice _ es _ _ => some (i * es, es)
  | _ => none
def fillS (d : TD) : List SV → List (Nat × SV) → (List SV → Prop) → Prop
  | cs, [], k => k cs
  | cs, (i, s) :: r, k => nd (place d i) fun p => match Nat.beq (cells s).length p.2 with
    | true => nd (splice cs p.1 (cells s)) fun cs => lf cs fun cs => fillS d cs r k
    | false => False

theorem foldl_zip (off : Nat) : ∀ (l : List Value) (s : Nat) (cs : List Value), off + s + l.length ≤ cs.length →
    (l.zipIdx s).foldl (fun (cs : Array Value) (x : Value × Nat) => cs.setIfInBounds (off + x.2) x.1) cs.toArray = (cs.take (off + s) ++ l ++ cs.drop (off + s + l.length)).toArray
  | [], s, cs, h => by simp
  | v :: l, s, cs, h => by
    simp only [List.zipIdx_cons, List.foldl_cons]
    have hlt : off + s < cs.length := by simp at h; omega
    have e : (cs.toArray.setIfInBounds (off + s) v) = (cs.set (off + s) v).toArray := by simp
    rw [e, foldl_zip off l (s + 1) (cs.set (off + s) v) (by simp at h ⊢; omega)]
    congr 1
    have h1 : (cs.set (off + s) v).take (off + (s + 1)) = cs.take (off + s) ++ [v] := by
      rw [show off + (s + 1) = (off + s) + 1 by omega, List.take_succ_eq_append_getElem (by simpa using hlt), List.take_set_of_le (by omega)]
      simp
    have h2 : (cs.set (off + s) v).drop (off + (s + 1) + l.length) = cs.drop (off + s + (v :: l).length) := by
      rw [List.drop_set_of_lt (by omega)]
      congr 1
      simp
      omega
    rw [h1, h2]
    simp

section
variable {P : Program} {β : List Nat} {H : Hp} {w : World}
theorem evParts_den {n : Nat} {D : List Deferred} {E : Env} {a : Act} (R : RepA n D β E H a w) : ∀ {l : List (Nat × Operand)} {ss : List (Nat × SV)},
    evParts E l = some ss → ss.map (·.1) = (l.map fun x => (x.1, a.eval x.2)).map (·.1) ∧ DenL β (ss.map (·.2)) ((l.map fun x => (x.1, a.eval x.2)).map (·.2))
  | [], _, h => by simp [evParts] at h; subst h; exact ⟨rfl, rfl⟩
  | (i, x) :: r, _, h => by
    simp only [evParts] at h
    split at h
    · rename_i s hs
      split at h
      · rename_i l hl
        injection h with h; subst h
        obtain ⟨h1, h2⟩ := evParts_den R hl
        exact ⟨by simpa using h1, _, _, ev_den R hs, h2, rfl⟩
      · cases h
    · cases h
theorem fillS_fill {d : TD} : ∀ {ps : List (Nat × SV)} {vs : List (Nat × Value)} {cs : List SV} {xs : List Value} {k : List SV → Prop},
    ps.map (·.1) = vs.map (·.1) → DenL β (ps.map (·.2)) (vs.map (·.2)) → DenL β cs xs → fillS d cs ps k → ∃ cs' xs', k cs' ∧ DenL β cs' xs' ∧ Instr.fill (place d) xs.toArray vs = some xs'.toArray
  | [], vs, cs, xs, k, h1, h2, h3, h => by
    cases vs with
    | nil => exact ⟨cs, xs, h, h3, rfl⟩
    | cons _ _ => simp at h1
  | (i, s) :: ps, vs, cs, xs, k, h1, h2, h3, h => by
    cases vs with
    | nil => simp at h1
    | cons v vs =>
      obtain ⟨i', v⟩ := v
      simp only [List.map_cons, List.cons.injEq] at h1
      obtain ⟨hi, h1⟩ := h1
      subst hi
      simp only [List.map_cons] at h2
      obtain ⟨y, zs, hy, hz, he⟩ := h2
      simp only [List.cons.injEq] at he
      obtain ⟨he1, he2⟩ := he
      subst he1
      simp only [fillS] at h
      obtain ⟨p, hp, h⟩ := nd_elim h
      split at h
      case h_2 => exact h.elim
      rename_i hb
      have hb := Nat.eq_of_beq_eq_true hb
      obtain ⟨cs1, hcs1, h⟩ := nd_elim h
      rw [lf_eq] at h
      have hyc := den_cells hy
      have hl := hyc.length
      have hl' : v.cells.size = p.2 := by rw [← hb, ← hl]; simp
      have hsp := splice_eq hcs1
      have hl3 := h3.length
      obtain ⟨cs', xs', hk, hd, hf⟩ := fillS_fill h1 (he2 ▸ hz) (DenL.splice h3 hyc hcs1) h
      refine ⟨cs', xs', hk, hd, ?_⟩
      obtain ⟨off, sz⟩ := p
      simp only [Instr.fill, hp]
      simp only at hl' hsp
      rw [if_neg (by simp only [Bool.or_eq_true, decide_eq_true_eq]; simp; omega)]
      rw [← hf]
      congr 1
      have := foldl_zip off v.cells.toList 0 xs (by simp at hl ⊢; omega)
      rw [← Array.foldl_toList]
      simpa using this
end

/-! ### Bounds -/
def bnd (x : Option SV) (dflt hi : Nat) (k : Nat → Prop) : Prop :=
  match x with
  | none => k dflt
  | some (.v (.int _ z)) => inb z (hi + 1) k
  | _ => False
def evo (E : Env) : Option Operand → Option (Option SV)
  | none => some none
  | some x => match ev E x with | some s => some (some s) | none => none
/-- A slice's beginning, moved on. -/
def slA (A : Option Addr) (l es c : Nat) : Option Addr := if c = l then A else A.map (·.add (l * es))
def bt (s : ByteArray) (i : Nat) : Int := ((s.data[i]?).getD 0).toNat

/-- Plain values alone. -/
def blwL0 : List SV → Bool
  | [] => true
  | .v _ :: r => blwL0 r
  | _ :: _ => false
theorem blwL0_den {β β' : List Nat} : ∀ {l : List SV} {xs : List Value}, blwL0 l = true → DenL β l xs → DenL β' l xs
  | [], _, _, h => h
  | .v x :: r, _, hb, ⟨y, zs, h1, h2, h3⟩ => ⟨y, zs, h1, blwL0_den (by simpa [blwL0] using hb) h2, h3⟩
  | .loc _ _ :: _, _, hb, _ => by simp [blwL0] at hb
  | .sl _ _ _ _ :: _, _, hb, _ => by simp [blwL0] at hb
  | .clo _ _ _ :: _, _, hb, _ => by simp [blwL0] at hb
  | .agg _ :: _, _, hb, _ => by simp [blwL0] at hb
  | .tup _ :: _, _, hb, _ => by simp [blwL0] at hb
  | .ifc _ _ :: _, _, hb, _ => by simp [blwL0] at hb
/-- Structs and arrays, held side by side: whoever proves says how they compare. -/
structure AggEq (P : Program) (op : BinOp) (t : TypeId) (l m : List SV) (k : Bool → Prop) : Prop where
  ex : ∃ b : Bool, (∀ w ox oy xs ys, DenL [] l xs → DenL [] m ys → (do eqGuard op t ox oy (.agg xs.toArray) (.agg ys.toArray); binOp op t (.agg xs.toArray) (.agg ys.toArray) : Sem Value).run P w = .ok (.bool b) w) ∧
    blwL0 l = true ∧ blwL0 m = true ∧ k b
/-! ### The operations -/
def addBox (H : Hp) (cs : List SV) (k : SV → Hp → Prop) : Prop :=
  match H with
  | ⟨nb, B, rs, g⟩ => lf (B ++ [cs]) fun bs => k (.loc nb 0) ⟨nb + 1, bs, rs, g⟩
theorem addBox_eq {H : Hp} {cs : List SV} {k : SV → Hp → Prop} (h : addBox H cs k) : k (.loc H.nb 0) { H with nb := H.nb + 1, boxes := H.boxes ++ [cs] } := by
  cases H
  simp only [addBox, lf_eq] at h
  exact h
/-- So often the same cells. -/
def repL : Nat → List Value → List SV
  | 0, _ => []
  | n + 1, z => z.map .v ++ repL n z
def repV : Nat → List Value → List Value
  | 0, _ => []
  | n + 1, z => z ++ repV n z
/-- A slice is built: whoever proves says how its block is to be held. -/
structure BldQ (e : TypeId) (es n : Nat) (cs : List SV) (H : Hp) (k : SV → Hp → Prop) : Prop where
  goes : ∀ (P : Program) β w xs (m : Sem Next), Rep β H w → DenL β cs xs → cs.length = n * es →
    m.run P w = .ok (.value (.slice (some ⟨w.heap.size, 0, none⟩) n n)) (w.alloc (.cells xs.toArray e)) → Goes P β H w m k
def opS (T : List TI) (P : Program) (op : Op) (E : Env) (H : Hp) (k : SV → Hp → Prop) : Prop :=
  match op with
  | .move x | .assign x => nd (ev E x) fun s => k s H
  | .pick c a b => nd (ev E c) fun s => match s with
    | .v (.bool t) => cnd t (nd (ev E a) fun s => k s H) (nd (ev E b) fun s => k s H)
    | _ => False
  | .alloc e => nd (getT T e) fun i => nd i.zero fun z => lf (z.map .v) fun cs => addBox H cs k
  | .box _ x => nd (ev E x) fun s => lf (cells s) fun cs => addBox H cs k
  | .build t parts => nd (getT T t) fun i => match i.d with
    | .struct fs => nd i.zero fun z => nd (evParts E parts.toList) fun ps => fillS (.struct fs) (z.map .v) ps fun cs => k (.agg cs) H
    | .array n es ea => nd i.zero fun z => nd (evParts E parts.toList) fun ps => fillS (.array n es ea) (z.map .v) ps fun cs => k (.agg cs) H
    | _ => False
  | .buildSlice t n parts => nd (getT T t) fun i => match i.d with
    | .slice e es eb ea => nd (getT T e) fun ie => nd ie.zero fun z => nd (evParts E parts.toList) fun ps => match Nat.beq z.length es, Nat.ble (n * es) 16777216 with
      | true, true => fillS (.slice e es eb ea) (repL n z) ps fun cs => match Nat.beq cs.length (n * es) with
        | true => BldQ e es n cs H k
        | false => False
      | _, _ => False
    | _ => False
  | .load t a => nd (getT T t) fun i => nd (ev E a) fun s => ldS H i s k
  | .store t a x => nd (getT T t) fun i => nd (ev E a) fun s => nd (ev E x) fun y => stS H i s (cells y) k
  | .nilCheck x => nd (ev E x) fun s => match s with
    | .loc i o => k (.loc i o) H
    | .v (.pointer (some a)) => k (.v (.pointer (some a))) H
    | .clo (.func f) a c => k (.clo (.func f) a c) H
    | _ => False
  | .binOp op t x y _ => nd (ev E x) fun s => nd (ev E y) fun u => match s, u with
    | .agg l, .agg m => AggEq P op t l m fun b => k (.v (.bool b)) H
    | .v (.bool a), .v (.bool b) => nd (getT T t) fun i => match i.d, op with
      | .bool, .eql => k (.v (.bool (a == b))) H
      | .bool, .neq => k (.v (.bool (!(a == b)))) H
      | _, _ => False
    | .v (.slice A _ _), .v (.slice none 0 0) => nd (getT T t) fun i => match i.d, op with
      | .slice _ _ _ _, .eql => k (.v (.bool A.isNone)) H
      | .slice _ _ _ _, .neq => k (.v (.bool (!A.isNone))) H
      | _, _ => False
    | s, u => binS op s u fun s => k s H
  | .unOp op _ x => nd (ev E x) fun s => unS op s fun s => k s H
  | .convert src dst x => nd (getT T src) fun _ => nd (getT T dst) fun i => nd (ev E x) fun s => match i.d, s with
    | .int kd, .v (.int _ n) => k (.v (.int kd (kd.wrap n))) H
    | .string, .v (.string s) => k (.v (.string s)) H
    | _, _ => False
  | .makeFunc f a c => nd (evs E a.toList) fun a => nd (evs E c.toList) fun c => k (.clo f a c) H
  | .makeInterface t x => nd (getT T t) fun i => nd (ev E x) fun s => match i.d with
    | .iface => False
    | _ => k (.ifc t s) H
  | .extract x i => nd (ev E x) fun s => match s with
    | .tup l => nd (nth l i) fun s => k s H
    | _ => False
  | .fieldAddr t x f => nd (getT T t) fun i => match i.d with
    | .struct fs => nd (nth fs f) fun p => match p.2.1 with
      | 0 => False
      | _ + 1 => nd (ev E x) fun s => match s with
        | .loc b o => k (.loc b (o + p.1)) H
        | .v (.pointer (some ad)) => k (.v (.pointer (some (ad.add p.1)))) H
        | _ => False
    | _ => False
  | .field t x f => nd (getT T t) fun i => match i.d with
    | .struct fs => nd (nth fs f) fun p => nd (ev E x) fun s => match s with
      | .agg l => match p.2.2 with
        | true => nd (sub l p.1 p.2.1) fun l => lf l fun l => k (.agg l) H
        | false => nd (nth l p.1) fun s => k s H
      | _ => False
    | _ => False
  | .index t x ix => nd (getT T t) fun i => nd (ev E x) fun s => nd (ev E ix) fun y => match i.d, s, y with
    | .array n es ea, .agg l, .v (.int _ z) => inb z n fun m => match ea with
      | true => nd (sub l (m * es) es) fun l => lf l fun l => k (.agg l) H
      | false => nd (nth l (m * es)) fun s => k s H
    | .string, .v (.string s), .v (.int _ z) => inb z s.size fun m => k (.v (.int .u8 (bt s m))) H
    | _, _, _ => False
  | .indexAddr t x ix => nd (getT T t) fun i => nd (ev E x) fun s => nd (ev E ix) fun y => match i.d, s, y with
    | .array n es _, .loc b o, .v (.int _ z) => inb z n fun m => k (.loc b (o + m * es)) H
    | .slice _ es _ _, .sl b o n _, .v (.int _ z) => inb z n fun m => k (.loc b (o + m * es)) H
    | .slice _ es _ _, .v (.slice A n _), .v (.int _ z) => inb z n fun m => nd A fun ad => k (.v (.pointer (some (ad.add (m * es))))) H
    | _, _, _ => False
  | .slice t x lo hi mx => nd (getT T t) fun i => nd (ev E x) fun s => nd (evo E lo) fun lo => nd (evo E hi) fun hi => nd (evo E mx) fun mx => match i.d, s with
    | .string, .v (.string s) => match mx with
      | none => bnd hi s.size s.size fun h => bnd lo 0 h fun l => k (.v (.string (s.extract l h))) H
      | some _ => False
    | .slice _ es _ _, .v (.slice A n c) => match mx with
      | none => bnd hi n c fun h => bnd lo 0 h fun l => k (.v (.slice (slA A l es c) (h - l) (c - l))) H
      | some mx => bnd (some mx) c c fun m => bnd hi n m fun h => bnd lo 0 h fun l => match hi with
        | some _ => k (.v (.slice (slA A l es m) (h - l) (m - l))) H
        | none => False
    | _, _ => False
  | _ => False

section
variable {P : Program} {β : List Nat} {H : Hp} {w : World}
theorem bnd_run {n : Nat} {D : List Deferred} {E : Env} {a : Act} (R : RepA n D β E H a w) {x : Option Operand} {s : Option SV} (hs : evo E x = some s) {dflt hi : Nat} {k : Nat → Prop} (h : bnd s dflt hi k) :
    (∃ m, k m ∧ ∀ code, (match x.map a.eval with | some v => Instr.sliceBound v hi code | none => pure dflt : Sem Nat).run P w = .ok m w) := by
  cases x with
  | none =>
    simp [evo] at hs
    subst hs
    exact ⟨dflt, h, fun _ => rfl⟩
  | some x =>
    simp only [evo] at hs
    split at hs
    · rename_i s' hs'
      injection hs with hs
      subst hs
      have hd := ev_den R hs'
      unfold bnd at h
      split at h
      · rename_i h1; cases h1
      · rename_i kd z h1
        injection h1 with h1
        subst h1
        obtain ⟨h0, h1, h⟩ := inb_elim h
        simp only [Den] at hd
        refine ⟨z.toNat, h, fun code => ?_⟩
        simp only [Option.map_some, hd, Instr.sliceBound, asIntOf, Sem.run_bind, Sem.run_pure, Result.andThen_ok]
        rw [if_pos (by omega)]
        rfl
      · exact h.elim
    · cases hs
theorem run_part {t : TypeId} {n : Nat} {b : Bool} (h : partOf P t = some (n, b)) {cs : List Value} {o : Nat} {y : Value}
    (hy : (b = true ∧ y = .agg ((cs.drop o).take n).toArray) ∨ (b = false ∧ cs[o]? = some y)) : (part t cs.toArray o).run P w = .ok y w := by
  obtain ⟨i, d, h1, h2, h3, h4⟩ := partOf_eq h
  unfold part
  rw [Sem.run_bind, run_isAgg' h2, Result.andThen_ok, h4]
  rcases hy with ⟨rfl, rfl⟩ | ⟨rfl, hy⟩
  · simp only [if_true, Sem.run_bind, run_sizeOf' h1, Result.andThen_ok, Sem.run_pure, h3]
    congr 2
    simp [List.extract_eq_take_drop]
  · simp [hy]

theorem run_eqnil {t e : TypeId} (w : World) (d : Nat) (A : Option Addr) (n c : Nat) (he : P.underlying t = some (.slice e)) : (Op.equalIn (d + 1) t (.slice A n c) (.slice none 0 0)).run P w = .ok A.isNone w := by
  cases A <;> simp [Op.equalIn, run_underlying he]
theorem repL_den (β : List Nat) (z : List Value) : ∀ n, DenL β (repL n z) (repV n z)
  | 0 => rfl
  | n + 1 => DenL.append (DenL.plain β z) (repL_den β z n)
theorem repV_length (z : List Value) : ∀ n, (repV n z).length = n * z.length
  | 0 => by simp [repV]
  | n + 1 => by simp [repV, repV_length z n, Nat.succ_mul, Nat.add_comm]
theorem repV_get (z : List Value) : ∀ (n j : Nat), j < n * z.length → (repV n z)[j]? = z[j % z.length]?
  | 0, j, h => by simp at h
  | n + 1, j, h => by
    simp only [repV]
    rcases Nat.lt_or_ge j z.length with hlt | hge
    · rw [List.getElem?_append_left hlt, Nat.mod_eq_of_lt hlt]
    · rw [List.getElem?_append_right hge, repV_get z n _ (by rw [Nat.succ_mul] at h; omega), Nat.mod_eq_sub_mod hge]
theorem repV_cells (z : Array Value) (n : Nat) : (Array.range (n * z.size)).map (z[· % z.size]!) = (repV n z.toList).toArray := by
  apply Array.ext'
  apply List.ext_getElem?
  intro j
  simp only [Array.toList_map, Array.toList_range, List.getElem?_map]
  rcases Nat.lt_or_ge j (n * z.size) with hlt | hge
  · have hz : 0 < z.size := by
      cases hzs : z.size with
      | zero => simp [hzs] at hlt
      | succ m => exact Nat.succ_pos m
    have hm := Nat.mod_lt j hz
    rw [repV_get z.toList n j (by simpa using hlt)]
    simp [hlt, hm]
  · have h1 : (repV n z.toList)[j]? = none := List.getElem?_eq_none (by rw [repV_length]; simpa using hge)
    simp [h1, hge]
theorem opS_goes {T : List TI} (hT : TabOk T P) {n : Nat} {D : List Deferred} {E : Env} {a : Act} (R : RepA n D β E H a w) {o : Oper} {k : SV → Hp → Prop} (h : opS T P o.op E H k) :
    Goes P β H w (execOp a.eval o) k := by
  unfold execOp
  unfold opS at h
  split at h
  · -- move
    rename_i op x he
    rw [he]
    replace h := nd_elim h
    obtain ⟨s, hs, h⟩ := h
    exact .stay R.rep rfl (ev_den R hs) h
  · rename_i op x he
    rw [he]
    replace h := nd_elim h
    obtain ⟨s, hs, h⟩ := h
    exact .stay R.rep rfl (ev_den R hs) h
  · -- pick
    rename_i op c x y he
    rw [he]
    replace h := nd_elim h
    obtain ⟨s, hs, h⟩ := h
    have hd := ev_den R hs
    split at h
    · simp only [Den] at hd
      rcases cnd_elim h with ⟨rfl, h⟩ | ⟨rfl, h⟩
      · replace h := nd_elim h
        obtain ⟨u, hu, h⟩ := h
        exact .stay R.rep (by simp [hd, asBool]) (ev_den R hu) h
      · replace h := nd_elim h
        obtain ⟨u, hu, h⟩ := h
        exact .stay R.rep (by simp [hd, asBool]) (ev_den R hu) h
    · exact h.elim
  · -- alloc
    rename_i op e he
    rw [he]
    replace h := nd_elim h
    obtain ⟨i, hi, h⟩ := h
    replace h := nd_elim h
    obtain ⟨z, hz, h⟩ := h
    rw [lf_eq] at h
    replace h := addBox_eq h
    obtain ⟨ti⟩ := hT.get hi
    rw [ti.zero] at hz
    obtain ⟨z', hz', rfl⟩ := Option.map_eq_some_iff.1 hz
    obtain ⟨R', X'⟩ := R.rep.new (DenL.plain β z'.cells.toList) e
    refine ⟨_, _, _, .loc H.nb 0, _, .inl ?_, ⟨w.heap.size, ?_, rfl⟩, R', X', h⟩
    · simp [Instr.alloc, zeroValue, typeInfo, ti.info, hz', newVar, newRow, newObj, Sem.run]
    · rw [R.rep.nb, ← R.rep.len]; simp
  · -- box
    rename_i op e x he
    rw [he]
    replace h := nd_elim h
    obtain ⟨s, hs, h⟩ := h
    rw [lf_eq] at h
    replace h := addBox_eq h
    have hd := ev_den R hs
    obtain ⟨R', X'⟩ := R.rep.new (den_cells hd) e
    refine ⟨_, _, _, .loc H.nb 0, _, .inl ?_, ⟨w.heap.size, ?_, rfl⟩, R', X', h⟩
    · simp [Instr.box, newVar, newRow, newObj, Sem.run]
    · rw [R.rep.nb, ← R.rep.len]; simp
  · -- build
    rename_i op t parts he
    rw [he]
    replace h := nd_elim h
    obtain ⟨i, hi, h⟩ := h
    obtain ⟨ti⟩ := hT.get hi
    have htd := ti.d
    have hpl : ∀ (d : TD) (z : Value) (ps : List (Nat × SV)) (k' : List SV → Prop), ti.ti.zero = some z → evParts E parts.toList = some ps → fillS d (z.cells.toList.map .v) ps k' →
        ∃ cs xs, k' cs ∧ DenL β cs xs ∧ Instr.fill (place d) z.cells (parts.toList.map fun x => (x.1, a.eval x.2)) = some xs.toArray := by
      intro d z ps k' hz hps hf
      obtain ⟨h1, h2⟩ := evParts_den R hps
      obtain ⟨cs, xs, h3, h4, h5⟩ := fillS_fill h1 h2 (DenL.plain β z.cells.toList) hf
      exact ⟨cs, xs, h3, h4, by simpa using h5⟩
    have fin : ∀ (d : TD) (z : Value) (ps : List (Nat × SV)), ti.ti.zero = some z → evParts E parts.toList = some ps → i.d = d → (∀ vs, P.built t vs = Instr.fill (place d) z.cells vs) →
        fillS d (z.cells.toList.map .v) ps (fun cs => k (.agg cs) H) → Goes P β H w (do pure (.value (← Instr.build t (parts.map fun (i, x) => (i, a.eval x))))) k := by
      intro d z ps hz hps hid hb hf
      obtain ⟨cs, xs, h3, h4, h5⟩ := hpl d z ps _ hz hps hf
      refine .stay R.rep (y := .agg xs.toArray) (s := .agg cs) ?_ ⟨xs, h4, rfl⟩ h3
      have := run_build (P := P) w t (parts.map fun (i, x) => (i, a.eval x)) xs.toArray (by rw [hb]; rw [← h5]; congr 1; simp)
      simp only [Sem.run_bind, this, Result.andThen_ok, Sem.run_pure]
    split at h
    · rename_i fs hid
      replace h := nd_elim h
      obtain ⟨z, hz, h⟩ := h
      replace h := nd_elim h
      obtain ⟨ps, hps, h⟩ := h
      rw [ti.zero] at hz
      obtain ⟨z', hz', rfl⟩ := Option.map_eq_some_iff.1 hz
      refine fin _ z' ps hz' hps hid ?_ h
      intro vs
      rw [hid] at htd
      unfold tdOf at htd
      split at htd <;> try (first | (simp at htd; done) | (split at htd <;> simp at htd; done))
      rename_i fields hdesc
      split at htd
      · rename_i l hl
        simp at htd
        subst htd
        unfold Program.built
        simp only [ti.info, ti.und, hdesc, hz', fieldsOf_mapM hl]
        congr 1
        funext j
        simp only [place, nth_eq]
        simp
        cases l[j]? <;> rfl
      · cases htd
    · rename_i n' es ea hid
      replace h := nd_elim h
      obtain ⟨z, hz, h⟩ := h
      replace h := nd_elim h
      obtain ⟨ps, hps, h⟩ := h
      rw [ti.zero] at hz
      obtain ⟨z', hz', rfl⟩ := Option.map_eq_some_iff.1 hz
      refine fin _ z' ps hz' hps hid ?_ h
      intro vs
      rw [hid] at htd
      unfold tdOf at htd
      split at htd <;> try (first | (simp at htd; done) | (split at htd <;> simp at htd; done))
      rename_i e hdesc
      split at htd
      · rename_i p hp
        obtain ⟨sz, b⟩ := p
        obtain ⟨ie, de, h1, h2, h3, h4⟩ := partOf_eq hp
        simp at htd
        obtain ⟨rfl, rfl, rfl⟩ := htd
        unfold Program.built
        simp only [ti.info, ti.und, hdesc, hz', h1, h3]
        rfl
      · cases htd
    · exact h.elim
  · -- buildSlice
    rename_i op t n' parts he
    rw [he]
    replace h := nd_elim h
    obtain ⟨i, hi, h⟩ := h
    obtain ⟨ti⟩ := hT.get hi
    have htd := ti.d
    split at h
    case h_2 => exact h.elim
    rename_i e es eb ea hid
    replace h := nd_elim h
    obtain ⟨ie, hie, h⟩ := h
    obtain ⟨te⟩ := hT.get hie
    replace h := nd_elim h
    obtain ⟨z, hz, h⟩ := h
    replace h := nd_elim h
    obtain ⟨ps, hps, h⟩ := h
    rw [te.zero] at hz
    obtain ⟨z', hz', rfl⟩ := Option.map_eq_some_iff.1 hz
    split at h
    case h_2 => exact h.elim
    rename_i hb1 hb2
    have hzs : z'.cells.size = es := by simpa using Nat.eq_of_beq_eq_true hb1
    have hle := Nat.le_of_ble_eq_true hb2
    have hdesc : ti.desc = .slice e ∧ te.ti.size = es := by
      rw [hid] at htd
      unfold tdOf at htd
      split at htd <;> try (first | (simp at htd; done) | (split at htd <;> simp at htd; done))
      rename_i e' hdesc
      split at htd
      · rename_i p ii hp hii
        obtain ⟨sz, b⟩ := p
        obtain ⟨ie', de, h1, h2, h3, h4⟩ := partOf_eq hp
        simp at htd
        obtain ⟨rfl, rfl, rfl, rfl⟩ := htd
        refine ⟨hdesc, ?_⟩
        have := te.info
        rw [h1] at this
        rw [← Option.some.inj this, h3]
      · cases htd
    obtain ⟨h1, h2⟩ := evParts_den R hps
    obtain ⟨cs, xs, h3, h4, h5⟩ := fillS_fill h1 h2 (repL_den β z'.cells.toList n') h
    split at h3
    case h_2 => exact h3.elim
    rename_i hb3
    refine h3.goes P β w xs _ R.rep h4 (Nat.eq_of_beq_eq_true hb3) ?_
    have hsz : (sizeOf e).run P w = .ok es w := by simp [sizeOf, typeInfo, te.info, hdesc.2]
    have hfill : Instr.fill (fun i => some (i * es, es)) ((Array.range (n' * es)).map ((if n' * es = 0 then (#[] : Array Value) else z'.cells)[· % (if n' * es = 0 then (#[] : Array Value) else z'.cells).size]!))
        (parts.map fun (i, x) => (i, a.eval x)).toList = some xs.toArray := by
      have e1 : ((Array.range (n' * es)).map ((if n' * es = 0 then (#[] : Array Value) else z'.cells)[· % (if n' * es = 0 then (#[] : Array Value) else z'.cells).size]!)) = (repV n' z'.cells.toList).toArray := by
        by_cases h0 : n' * es = 0
        · rw [if_pos h0, h0]
          have : repV n' z'.cells.toList = [] := by
            apply List.eq_nil_of_length_eq_zero
            rw [repV_length]
            simpa [hzs] using h0
          rw [this]; simp
        · rw [if_neg h0, ← repV_cells, hzs]
      rw [e1]
      have e2 : (fun i => some (i * es, es)) = place (.slice e es eb ea) := by funext i; rfl
      rw [e2]
      have e3 : (parts.map fun (i, x) => (i, a.eval x)).toList = parts.toList.map fun x => (x.1, a.eval x.2) := by simp
      rw [e3]
      rw [← hid]
      rw [hid]
      exact h5
    by_cases h0 : n' * es = 0
    · simp only [if_pos h0] at hfill
      simp only [Instr.buildSlice, Sem.run_bind, ti.run_und, Result.andThen_ok, hdesc.1, hsz]
      rw [if_neg (by omega)]
      simp only [if_pos h0, Sem.run_bind, Sem.run_pure, Result.andThen_ok, hfill]
      simp [newRow, newObj, Sem.run]
    · simp only [if_neg h0] at hfill
      have hzr : (zeroValue e).run P w = .ok z' w := by simp [zeroValue, typeInfo, te.info, hz']
      simp only [Instr.buildSlice, Sem.run_bind, ti.run_und, Result.andThen_ok, hdesc.1, hsz]
      rw [if_neg (by omega)]
      simp only [if_neg h0, Sem.run_bind, Sem.run_pure, Result.andThen_ok, hzr, hfill]
      simp [newRow, newObj, Sem.run]
  · -- load
    rename_i op t x he
    rw [he]
    replace h := nd_elim h
    obtain ⟨i, hi, h⟩ := h
    replace h := nd_elim h
    obtain ⟨s, hs, h⟩ := h
    obtain ⟨ti⟩ := hT.get hi
    obtain ⟨y, s', h1, h2, h3⟩ := ldS_run R.rep ti (ev_den R hs) h
    exact .stay R.rep (by simp only [Sem.run_bind, h1, Result.andThen_ok, Sem.run_pure]) h2 h3
  · -- store
    rename_i op t x y he
    rw [he]
    replace h := nd_elim h
    obtain ⟨i, hi, h⟩ := h
    replace h := nd_elim h
    obtain ⟨s, hs, h⟩ := h
    replace h := nd_elim h
    obtain ⟨s2, hs2, h⟩ := h
    obtain ⟨ti⟩ := hT.get hi
    obtain ⟨w', H', h1, h2, h3, h4⟩ := stS_run R.rep ti (ev_den R hs) (ev_den R hs2) h
    exact ⟨undef, w', β, .v undef, H', .inr ⟨by simp only [Sem.run_bind, h1, Result.andThen_ok, Sem.run_pure], rfl⟩, rfl, h2, h3, h4⟩
  · -- nilCheck
    rename_i op x he
    rw [he]
    replace h := nd_elim h
    obtain ⟨s, hs, h⟩ := h
    have hd := ev_den R hs
    split at h
    · obtain ⟨b, hb, hy⟩ := hd
      exact .stay R.rep (y := a.eval x) (by simp [hy]) (by rw [hy]; exact ⟨b, hb, rfl⟩) h
    · simp only [Den] at hd
      exact .plain R.rep (by simp [hd]) h
    · obtain ⟨xs, ys, h1, h2, hy⟩ := hd
      exact .stay R.rep (y := a.eval x) (s := .clo _ _ _) (by simp [hy]) ⟨xs, ys, h1, h2, hy⟩ h
    · exact h.elim
  · -- binOp
    rename_i op' op t x y t' he
    rw [he]
    replace h := nd_elim h
    obtain ⟨s, hs, h⟩ := h
    replace h := nd_elim h
    obtain ⟨u, hu, h⟩ := h
    split at h
    · rename_i l m
      obtain ⟨b, h1, h2, h3, h4⟩ := h
      obtain ⟨xs, hxs, hx⟩ := ev_den R hs
      obtain ⟨ys, hys, hy⟩ := ev_den R hu
      have h1' := h1 w x y xs ys (blwL0_den h2 hxs) (blwL0_den h3 hys)
      refine .plain R.rep (y := .bool b) ?_ h4
      simp only [Sem.run_bind, hx, hy] at h1' ⊢
      rw [h1']; rfl
    · rename_i a' b'
      replace h := nd_elim h
      obtain ⟨i, hi, h⟩ := h
      obtain ⟨ti⟩ := hT.get hi
      have htd := ti.d
      have hx := ev_den R hs
      have hy := ev_den R hu
      simp only [Den] at hx hy
      have fin : i.d = .bool → P.underlying t = some .bool := by
        intro hid
        rw [hid] at htd
        unfold tdOf at htd
        split at htd <;> try (first | (simp at htd; done) | (split at htd <;> simp at htd; done))
        rename_i hdesc
        rw [ti.und, hdesc]
      split at h
      · rename_i hid
        refine .plain R.rep ?_ h
        simp only [Sem.run_bind, hx, hy, eqGuard, binOp, Op.equal, Op.maxDepth]
        rw [show (10000 : Nat) = 9999 + 1 from rfl]
        simp [run_equalIn_bool' _ 9999 t a' b' (fin hid)]
      · rename_i hid
        refine .plain R.rep ?_ h
        simp only [Sem.run_bind, hx, hy, eqGuard, binOp, Op.equal, Op.maxDepth]
        rw [show (10000 : Nat) = 9999 + 1 from rfl]
        simp [run_equalIn_bool' _ 9999 t a' b' (fin hid)]
      · exact h.elim
    · rename_i A n' c'
      replace h := nd_elim h
      obtain ⟨i, hi, h⟩ := h
      obtain ⟨ti⟩ := hT.get hi
      have htd := ti.d
      have hx := ev_den R hs
      have hy := ev_den R hu
      simp only [Den] at hx hy
      have fin : ∀ {e es eb ea}, i.d = .slice e es eb ea → ∃ e, P.underlying t = some (.slice e) := by
        intro e es eb ea hid
        rw [hid] at htd
        unfold tdOf at htd
        split at htd <;> try (first | (simp at htd; done) | (split at htd <;> simp at htd; done))
        rename_i e' hdesc
        exact ⟨e', by rw [ti.und, hdesc]⟩
      split at h
      · rename_i hid
        obtain ⟨e, he⟩ := fin hid
        refine .plain R.rep ?_ h
        simp only [Sem.run_bind, hx, hy, eqGuard, binOp]
        simp only [Op.equal, Op.maxDepth]
        rw [show (10000 : Nat) = 9999 + 1 from rfl]
        simp [run_eqnil w 9999 A _ _ he]
      · rename_i hid
        obtain ⟨e, he⟩ := fin hid
        refine .plain R.rep ?_ h
        simp only [Sem.run_bind, hx, hy, eqGuard, binOp]
        simp only [Op.equal, Op.maxDepth]
        rw [show (10000 : Nat) = 9999 + 1 from rfl]
        simp [run_eqnil w 9999 A _ _ he]
      · exact h.elim
    obtain ⟨z, h1, h2⟩ := binS_run (P := P) (w := w) (ev_den R hs) (ev_den R hu) h t x y
    refine .plain R.rep (y := z) ?_ h2
    have h1' : (do eqGuard op t x y (a.eval x) (a.eval y); binOp op t (a.eval x) (a.eval y) : Sem Value).run P w = .ok z w := h1
    simp only [Sem.run_bind] at h1' ⊢
    rw [h1']; rfl
  · -- unOp
    rename_i op' op t x he
    rw [he]
    replace h := nd_elim h
    obtain ⟨s, hs, h⟩ := h
    obtain ⟨z, h1, h2⟩ := unS_run (P := P) (w := w) (ev_den R hs) h
    exact .plain R.rep (y := z) (by simp only [Sem.run_bind, h1, Result.andThen_ok, Sem.run_pure]) h2
  · -- convert
    rename_i op src dst x he
    rw [he]
    replace h := nd_elim h
    obtain ⟨_, hj, h⟩ := h
    replace h := nd_elim h
    obtain ⟨i, hi, h⟩ := h
    replace h := nd_elim h
    obtain ⟨s, hs, h⟩ := h
    have hd := ev_den R hs
    obtain ⟨tj⟩ := hT.get hj
    obtain ⟨ti⟩ := hT.get hi
    have htd := ti.d
    split at h
    · rename_i kd k' nn hid
      simp only [Den] at hd
      have hdesc : ti.desc = .int kd := by
        rw [hid] at htd
        unfold tdOf at htd
        split at htd <;> try (first | (simp at htd; done) | (split at htd <;> simp at htd; done))
        rename_i kd' hdesc
        simp at htd
        rw [hdesc, htd]
      refine .plain R.rep ?_ h
      simp only [hd, convert, Sem.run_bind, tj.run_und, ti.run_und, Result.andThen_ok, hdesc]
      cases tj.desc <;> simp [Conv.intToInt]
    · rename_i s' hid
      simp only [Den] at hd
      have hdesc : ti.desc = .string := by
        rw [hid] at htd
        unfold tdOf at htd
        split at htd <;> try (first | (simp at htd; done) | (split at htd <;> simp at htd; done))
        rename_i hdesc
        exact hdesc
      refine .plain R.rep ?_ h
      simp only [hd, convert, Sem.run_bind, tj.run_und, ti.run_und, Result.andThen_ok, hdesc]
      cases tj.desc <;> first | rfl | simp
    · exact h.elim
  · -- makeFunc
    rename_i op f xs ys he
    rw [he]
    replace h := nd_elim h
    obtain ⟨l1, hl1, h⟩ := h
    replace h := nd_elim h
    obtain ⟨l2, hl2, h⟩ := h
    refine .stay R.rep (s := .clo f l1 l2) ?_ ⟨_, _, evs_den R hl1, evs_den R hl2, rfl⟩ h
    simp only [Instr.makeFunc, Sem.run_bind, Sem.run_pure, Result.andThen_ok]
    have e : ∀ zs : Array Operand, zs.map a.eval = (zs.toList.map a.eval).toArray := fun zs => by apply Array.ext'; simp
    rw [e, e]
  · -- makeInterface
    rename_i op t x he
    rw [he]
    replace h := nd_elim h
    obtain ⟨i, hi, h⟩ := h
    replace h := nd_elim h
    obtain ⟨s, hs, h⟩ := h
    obtain ⟨ti⟩ := hT.get hi
    have htd := ti.d
    have hd := ev_den R hs
    split at h
    · exact h.elim
    · rename_i hne
      refine .stay R.rep (y := .iface t (a.eval x)) (s := .ifc t s) ?_ ⟨_, hd, rfl⟩ h
      simp only [Instr.makeInterface, Sem.run_bind, ti.run_und, Result.andThen_ok]
      cases hdesc : ti.desc <;> first
        | rfl
        | (rw [hdesc] at htd; simp [tdOf] at htd; exact absurd htd.symm hne)
  · -- extract
    rename_i op x i he
    rw [he]
    replace h := nd_elim h
    obtain ⟨s, hs, h⟩ := h
    have hd := ev_den R hs
    split at h
    · replace h := nd_elim h
      obtain ⟨s', hs', h⟩ := h
      rw [nth_eq] at hs'
      obtain ⟨xs, h1, hy⟩ := hd
      obtain ⟨y, hy1, hd1⟩ := h1.get hs'
      exact .stay R.rep (y := y) (by simp [hy, Instr.extract, hy1]) hd1 h
    · exact h.elim
  · -- fieldAddr
    rename_i op t x f he
    rw [he]
    replace h := nd_elim h
    obtain ⟨i, hi, h⟩ := h
    obtain ⟨ti⟩ := hT.get hi
    have htd := ti.d
    split at h
    case h_2 => exact h.elim
    rename_i fs hid
    replace h := nd_elim h
    obtain ⟨⟨off, sz, b⟩, hp, h⟩ := h
    rw [nth_eq] at hp
    rw [hid] at htd
    unfold tdOf at htd
    split at htd <;> try (first | (simp at htd; done) | (split at htd <;> simp at htd; done))
    rename_i fields hdesc
    split at htd
    case h_2 => cases htd
    rename_i l hl
    have hfs : l = fs := by simpa using htd
    rw [hfs] at hl
    obtain ⟨fld, hf1, hf2, hf3⟩ := fieldsOf_get hl hp
    obtain ⟨fi, fd, h1, h2, h3, h4⟩ := partOf_eq hf3
    split at h
    · exact h.elim
    · rename_i m hm
      have hm : sz = m + 1 := hm
      replace h := nd_elim h
      obtain ⟨s, hs, h⟩ := h
      have hd := ev_den R hs
      have hfld : fields[f]? = some fld := by simpa using hf1
      have hsz : ¬ fi.size = 0 := by omega
      split at h
      · rename_i b' o'
        obtain ⟨bb, hb, hy⟩ := hd
        refine .stay R.rep (y := .pointer (some ⟨bb, o' + off, none⟩)) (s := .loc b' (o' + off)) ?_ ⟨bb, hb, rfl⟩ h
        simp only [hy, Instr.fieldAt, Sem.run_bind, ti.run_und, Result.andThen_ok, hdesc, hfld, Instr.sureAddr, Sem.run_pure, fieldPlace, run_sizeOf' h1, hsz, if_false]
        rw [hf2, addrO]
      · rename_i ad
        simp only [Den] at hd
        refine .plain R.rep ?_ h
        simp only [hd, Instr.fieldAt, Sem.run_bind, ti.run_und, Result.andThen_ok, hdesc, hfld, Instr.sureAddr, Sem.run_pure, fieldPlace, run_sizeOf' h1, hsz, if_false]
        rw [hf2]
      · exact h.elim
  · -- field
    rename_i op t x f he
    rw [he]
    replace h := nd_elim h
    obtain ⟨i, hi, h⟩ := h
    obtain ⟨ti⟩ := hT.get hi
    have htd := ti.d
    split at h
    case h_2 => exact h.elim
    rename_i fs hid
    replace h := nd_elim h
    obtain ⟨⟨off, sz, b⟩, hp, h⟩ := h
    replace h := nd_elim h
    obtain ⟨s, hs, h⟩ := h
    have hd := ev_den R hs
    rw [nth_eq] at hp
    rw [hid] at htd
    unfold tdOf at htd
    split at htd <;> try (first | (simp at htd; done) | (split at htd <;> simp at htd; done))
    rename_i fields hdesc
    split at htd
    case h_2 => cases htd
    rename_i l hl
    have hfs : l = fs := by simpa using htd
    rw [hfs] at hl
    obtain ⟨fld, hf1, hf2, hf3⟩ := fieldsOf_get hl hp
    have hfld : fields[f]? = some fld := by simpa using hf1
    split at h
    case h_2 => exact h.elim
    rename_i cs
    obtain ⟨xs, hxs, hy⟩ := hd
    have hrun : ∀ y, (part fld.type xs.toArray off).run P w = .ok y w → (do pure (.value (← Instr.field t (a.eval x) f)) : Sem Next).run P w = .ok (.value y) w := by
      intro y hpy
      simp only [hy, Instr.field, Sem.run_bind, ti.run_und, Result.andThen_ok, hdesc, hfld, asAgg, Sem.run_pure, hf2, hpy]
    split at h
    · rename_i hb
      replace h := nd_elim h
      obtain ⟨l', hl', h⟩ := h
      rw [lf_eq] at h
      exact .stay R.rep (s := .agg l') (hrun _ (run_part hf3 (.inl ⟨hb, rfl⟩))) ⟨_, hxs.sub hl', rfl⟩ h
    · rename_i hb
      replace h := nd_elim h
      obtain ⟨s', hs', h⟩ := h
      rw [nth_eq] at hs'
      obtain ⟨y, hy1, hd1⟩ := hxs.get hs'
      exact .stay R.rep (hrun _ (run_part hf3 (.inr ⟨hb, hy1⟩))) hd1 h
  · -- index
    rename_i op t x ix he
    rw [he]
    replace h := nd_elim h
    obtain ⟨i, hi, h⟩ := h
    obtain ⟨ti⟩ := hT.get hi
    have htd := ti.d
    replace h := nd_elim h
    obtain ⟨s, hs, h⟩ := h
    replace h := nd_elim h
    obtain ⟨u, hu, h⟩ := h
    have hd := ev_den R hs
    have hdu := ev_den R hu
    split at h
    · rename_i nn es ea cs kd z hid
      replace h := inb_elim h
      obtain ⟨h0, h1, h⟩ := h
      rw [hid] at htd
      unfold tdOf at htd
      split at htd <;> try (first | (simp at htd; done) | (split at htd <;> simp at htd; done))
      rename_i n2 e hdesc
      split at htd
      case h_2 => cases htd
      rename_i p hp
      obtain ⟨sz, b⟩ := p
      have hx : n2 = nn ∧ sz = es ∧ b = ea := by simpa using htd
      obtain ⟨e1, e2, e3⟩ := hx
      obtain ⟨ie, de, hh1, hh2, hh3, hh4⟩ := partOf_eq hp
      obtain ⟨xs, hxs, hy⟩ := hd
      simp only [Den] at hdu
      have hrun : ∀ y, (part e xs.toArray (z.toNat * es)).run P w = .ok y w → (do pure (.value (← Instr.index t (a.eval x) (a.eval ix))) : Sem Next).run P w = .ok (.value y) w := by
        intro y hpy
        simp only [hy, hdu, Instr.index, asIntOf, Sem.run_bind, Sem.run_pure, ti.run_und, Result.andThen_ok, hdesc]
        rw [if_pos (by omega)]
        simp only [Sem.run_bind, run_sizeOf' hh1, Result.andThen_ok, hh3, e2, hpy]
      split at h
      · replace h := nd_elim h
        obtain ⟨l', hl', h⟩ := h
        rw [lf_eq] at h
        exact .stay R.rep (s := .agg l') (hrun _ (run_part hp (.inl ⟨e3, by rw [e2]⟩))) ⟨_, hxs.sub hl', rfl⟩ h
      · replace h := nd_elim h
        obtain ⟨s', hs', h⟩ := h
        rw [nth_eq] at hs'
        obtain ⟨y, hy1, hd1⟩ := hxs.get hs'
        exact .stay R.rep (hrun _ (run_part hp (.inr ⟨e3, hy1⟩))) hd1 h
    · rename_i ss kd z hid
      replace h := inb_elim h
      obtain ⟨h0, h1, h⟩ := h
      have hdesc : ti.desc = .string := by
        rw [hid] at htd
        unfold tdOf at htd
        split at htd <;> try (first | (simp at htd; done) | (split at htd <;> simp at htd; done))
        rename_i hdesc
        exact hdesc
      simp only [Den] at hd hdu
      refine .plain R.rep ?_ h
      have hlt : z.toNat < ss.size := by omega
      have hb : (ss[z.toNat]? : Option UInt8) = some (ss.data[z.toNat]'hlt) := by
        rw [getElem?_pos ss z.toNat hlt]; rfl
      simp only [hd, hdu, Instr.index, asIntOf, Sem.run_bind, Sem.run_pure, ti.run_und, Result.andThen_ok, hdesc]
      rw [if_pos h0, hb]
      simp only [Sem.run_pure, Result.andThen_ok, bt]
      have hg : ss.data[z.toNat]? = some (ss.data[z.toNat]'hlt) := Array.getElem?_eq_getElem hlt
      rw [hg]
      rfl
    · exact h.elim
  · -- indexAddr
    rename_i op t x ix he
    rw [he]
    replace h := nd_elim h
    obtain ⟨i, hi, h⟩ := h
    obtain ⟨ti⟩ := hT.get hi
    have htd := ti.d
    replace h := nd_elim h
    obtain ⟨s, hs, h⟩ := h
    replace h := nd_elim h
    obtain ⟨u, hu, h⟩ := h
    have hd := ev_den R hs
    have hdu := ev_den R hu
    split at h
    · rename_i nn es ea b' o' kd z hid
      replace h := inb_elim h
      obtain ⟨h0, h1, h⟩ := h
      rw [hid] at htd
      unfold tdOf at htd
      split at htd <;> try (first | (simp at htd; done) | (split at htd <;> simp at htd; done))
      rename_i n2 e hdesc
      split at htd
      case h_2 => cases htd
      rename_i p hp
      obtain ⟨sz, b⟩ := p
      have hx : n2 = nn ∧ sz = es ∧ b = ea := by simpa using htd
      obtain ⟨e1, e2, e3⟩ := hx
      obtain ⟨ie, de, hh1, hh2, hh3, hh4⟩ := partOf_eq hp
      obtain ⟨bb, hb, hy⟩ := hd
      simp only [Den] at hdu
      refine .stay R.rep (y := .pointer (some ⟨bb, o' + z.toNat * es, none⟩)) (s := .loc b' (o' + z.toNat * es)) ?_ ⟨bb, hb, rfl⟩ h
      simp only [hy, hdu, Instr.indexAt, asIntOf, Sem.run_bind, Sem.run_pure, ti.run_und, Result.andThen_ok, hdesc, Instr.sureAddr]
      rw [if_pos (by omega)]
      simp only [Sem.run_bind, run_sizeOf' hh1, Result.andThen_ok, hh3, e2, Sem.run_pure, addrO]
    · rename_i ee es eb ea b' o' nn cc kd z hid
      replace h := inb_elim h
      obtain ⟨h0, h1, h⟩ := h
      rw [hid] at htd
      unfold tdOf at htd
      split at htd <;> try (first | (simp at htd; done) | (split at htd <;> simp at htd; done))
      rename_i e hdesc
      split at htd
      case h_2 => cases htd
      rename_i p ie' hp hie
      obtain ⟨sz, b⟩ := p
      have hx : e = ee ∧ sz = es ∧ ie'.bytes = eb ∧ b = ea := by simpa using htd
      obtain ⟨e1, e2, e3, e4⟩ := hx
      obtain ⟨ie, de, hh1, hh2, hh3, hh4⟩ := partOf_eq hp
      obtain ⟨bb, hb, hy⟩ := hd
      simp only [Den] at hdu
      refine .stay R.rep (y := .pointer (some ⟨bb, o' + z.toNat * es, none⟩)) (s := .loc b' (o' + z.toNat * es)) ?_ ⟨bb, hb, rfl⟩ h
      simp only [hy, hdu, Instr.indexAt, asIntOf, Sem.run_bind, Sem.run_pure, ti.run_und, Result.andThen_ok, hdesc]
      rw [if_pos (by omega)]
      simp only [Sem.run_bind, run_sizeOf' hh1, Result.andThen_ok, hh3, e2, Sem.run_pure, addrO]
    · rename_i ee es eb ea A nn cc kd z hid
      replace h := inb_elim h
      obtain ⟨h0, h1, h⟩ := h
      replace h := nd_elim h
      obtain ⟨ad, hA, h⟩ := h
      rw [hid] at htd
      unfold tdOf at htd
      split at htd <;> try (first | (simp at htd; done) | (split at htd <;> simp at htd; done))
      rename_i e hdesc
      split at htd
      case h_2 => cases htd
      rename_i p ie' hp hie
      obtain ⟨sz, b⟩ := p
      have hx : e = ee ∧ sz = es ∧ ie'.bytes = eb ∧ b = ea := by simpa using htd
      obtain ⟨e1, e2, e3, e4⟩ := hx
      obtain ⟨ie, de, hh1, hh2, hh3, hh4⟩ := partOf_eq hp
      simp only [Den] at hd hdu
      refine .plain R.rep ?_ h
      simp only [hd, hA, hdu, Instr.indexAt, asIntOf, Sem.run_bind, Sem.run_pure, ti.run_und, Result.andThen_ok, hdesc]
      rw [if_pos (by omega)]
      simp only [Sem.run_bind, run_sizeOf' hh1, Result.andThen_ok, hh3, e2, Sem.run_pure]
    · exact h.elim
  · -- slice
    rename_i op t x lo hi mx he
    rw [he]
    replace h := nd_elim h
    obtain ⟨i, hi', h⟩ := h
    obtain ⟨ti⟩ := hT.get hi'
    have htd := ti.d
    replace h := nd_elim h
    obtain ⟨s, hs, h⟩ := h
    replace h := nd_elim h
    obtain ⟨slo, hslo, h⟩ := h
    replace h := nd_elim h
    obtain ⟨shi, hshi, h⟩ := h
    replace h := nd_elim h
    obtain ⟨smx, hsmx, h⟩ := h
    have hd := ev_den R hs
    split at h
    · rename_i ss hid
      have hdesc : ti.desc = .string := by
        rw [hid] at htd
        unfold tdOf at htd
        split at htd <;> try (first | (simp at htd; done) | (split at htd <;> simp at htd; done))
        rename_i hdesc
        exact hdesc
      simp only [Den] at hd
      split at h
      case h_2 => exact h.elim
      have hm : mx = none := by
        cases mx with
        | none => rfl
        | some m => simp only [evo] at hsmx; split at hsmx <;> cases hsmx
      obtain ⟨hh, h, hr1⟩ := bnd_run (P := P) R hshi h
      obtain ⟨ll, h, hr2⟩ := bnd_run (P := P) R hslo h
      refine .plain R.rep ?_ h
      have hr1' := hr1 .sliceAlen
      have hr2' := hr2 .sliceB
      subst hm
      simp only [Option.map_none, Instr.sliceAt, Instr.slice, Sem.run_bind, ti.run_und, Result.andThen_ok, hdesc, hd, Instr.sliceBounds, Option.isSome_none, Bool.false_eq_true, if_false, Sem.run_pure]
      cases hi with
      | none =>
        have e1 : ss.size = hh := by simpa using hr1'
        subst e1
        cases lo with
        | none =>
          have e2 : 0 = ll := by simpa using hr2'
          subst e2
          simp
        | some lo =>
          simp only [Option.map_some] at hr2' ⊢
          simp [hr2']
      | some hi =>
        simp only [Option.map_some] at hr1' ⊢
        simp only [Sem.run_bind, hr1', Result.andThen_ok]
        cases lo with
        | none =>
          have e2 : 0 = ll := by simpa using hr2'
          subst e2
          simp
        | some lo =>
          simp only [Option.map_some] at hr2' ⊢
          simp [hr2']
    · rename_i ee es eb ea A nn cc hid
      have hdesc : ∃ e, ti.desc = .slice e ∧ ∃ b, partOf P e = some (es, b) := by
        rw [hid] at htd
        unfold tdOf at htd
        split at htd <;> try (first | (simp at htd; done) | (split at htd <;> simp at htd; done))
        rename_i e hdesc
        split at htd
        case h_2 => cases htd
        rename_i p ie' hp hie
        obtain ⟨sz, b⟩ := p
        have hx : e = ee ∧ sz = es ∧ ie'.bytes = eb ∧ b = ea := by simpa using htd
        exact ⟨e, hdesc, b, by rw [hp, hx.2.1]⟩
      obtain ⟨e, hdesc, bb, hp⟩ := hdesc
      obtain ⟨ie, de, hh1, hh2, hh3, hh4⟩ := partOf_eq hp
      simp only [Den] at hd
      split at h
      · have hm : mx = none := by
          cases mx with
          | none => rfl
          | some m => simp only [evo] at hsmx; split at hsmx <;> cases hsmx
        obtain ⟨hh, h, hr1⟩ := bnd_run (P := P) R hshi h
        obtain ⟨ll, h, hr2⟩ := bnd_run (P := P) R hslo h
        refine .plain R.rep ?_ h
        have hr1' := hr1 .sliceAcap
        have hr2' := hr2 .sliceB
        subst hm
        simp only [Option.map_none, Instr.sliceAt, Instr.slice, Sem.run_bind, ti.run_und, Result.andThen_ok, hdesc, hd, Instr.sliceBounds, Option.isSome_none, Bool.false_eq_true, if_false, if_true, Sem.run_pure]
        cases hi with
        | none =>
          have e1 : nn = hh := by simpa using hr1'
          subst e1
          cases lo with
          | none =>
            have e2 : 0 = ll := by simpa using hr2'
            subst e2
            simp [run_sizeOf' hh1, hh3, slA]
          | some lo =>
            simp only [Option.map_some] at hr2' ⊢
            simp [hr2', run_sizeOf' hh1, hh3, slA]
        | some hi =>
          simp only [Option.map_some] at hr1' ⊢
          simp only [Sem.run_bind, hr1', Result.andThen_ok]
          cases lo with
          | none =>
            have e2 : 0 = ll := by simpa using hr2'
            subst e2
            simp [run_sizeOf' hh1, hh3, slA]
          | some lo =>
            simp only [Option.map_some] at hr2' ⊢
            simp [hr2', run_sizeOf' hh1, hh3, slA]
      · rename_i smx'
        cases mx with
        | none => simp [evo] at hsmx
        | some mx =>
        obtain ⟨mm, h, hr0⟩ := bnd_run (P := P) R hsmx h
        obtain ⟨hh, h, hr1⟩ := bnd_run (P := P) R hshi h
        obtain ⟨ll, h, hr2⟩ := bnd_run (P := P) R hslo h
        split at h
        case h_2 => exact h.elim
        refine .plain R.rep ?_ h
        cases hi with
        | none => simp [evo] at hshi
        | some hi =>
        have hr0' := hr0 .slice3Acap
        have hr1' := hr1 .slice3B
        have hr2' := hr2 .slice3C
        simp only [Option.map_some] at hr0' hr1'
        simp only [Option.map_some, Instr.sliceAt, Instr.slice, Sem.run_bind, ti.run_und, Result.andThen_ok, hdesc, hd, Instr.sliceBounds, if_true, Sem.run_pure, hr0', hr1', Option.isSome_some]
        cases lo with
        | none =>
          have e2 : 0 = ll := by simpa using hr2'
          subst e2
          simp [run_sizeOf' hh1, hh3, slA]
        | some lo =>
          simp only [Option.map_some] at hr2' ⊢
          simp [hr2', run_sizeOf' hh1, hh3, slA]
    · exact h.elim
  · exact h.elim
end
end Go.Sx
