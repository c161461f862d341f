import Derived.Test.YtmjpidjdbofdjaaYA
/- Sy, part B: the table of types; what an operation does to a state. -/
set_option linter.unusedVariables false
set_option linter.unusedSimpArgs false
namespace Go.Sy
open Go

/-! ### Types -/
inductive TD where
  | other
  | bool
  | int (k : IntKind)
  | string
  | struct (fs : List (Nat × Nat × Bool))
  | array (len es : Nat) (ea : Bool)
  | slice (e es eb : Nat) (ea : Bool)
  | pointer (e : Nat)
  | func
  | iface
  | map (k e : Nat)
  | tuple
structure TI where
  size : Nat
  bytes : Nat
  agg : Bool
  zero : Option (List Value)
  zag : Bool
  d : TD
def isAggD : TypeDesc → Bool
  | .struct _ | .array _ _ => true
  | _ => false
def partOf (P : Program) (t : TypeId) : Option (Nat × Bool) :=
  match P.info? t, P.underlying t with
  | some i, some d => some (i.size, isAggD d)
  | _, _ => none
def fieldsOf (P : Program) : List Field → Option (List (Nat × Nat × Bool))
  | [] => some []
  | f :: r => match partOf P f.type, fieldsOf P r with
    | some p, some l => some ((f.offset, p) :: l)
    | _, _ => none
def tdOf (P : Program) : TypeDesc → Option TD
  | .bool => some .bool
  | .int k => some (.int k)
  | .string => some .string
  | .struct fs => match fieldsOf P fs.toList with
    | some l => some (.struct l)
    | none => none
  | .array n e => match partOf P e with
    | some p => some (.array n p.1 p.2)
    | none => none
  | .slice e => match partOf P e, P.info? e with
    | some p, some i => some (.slice e p.1 i.bytes p.2)
    | _, _ => none
  | .pointer e => some (.pointer e)
  | .func .. => some .func
  | .interface _ => some .iface
  | .map k e => some (.map k e)
  | .tuple _ => some .tuple
  | _ => some .other
def tiOf (P : Program) (t : TypeId) : Option TI :=
  match P.info? t, P.underlying t with
  | some i, some d => match tdOf P d with
    | some td => some { size := i.size, bytes := i.bytes, agg := isAggD d, zero := match i.zero with | some z => some z.cells.toList | none => none, zag := match i.zero with | some (.agg _) => true | _ => false, d := td }
    | none => none
  | _, _ => none
def getT : List TI → Nat → Option TI
  | [], _ => none
  | i :: _, 0 => some i
  | _ :: r, t + 1 => getT r t
def tabOkFrom (P : Program) : Nat → List TI → Prop
  | _, [] => True
  | t, i :: r => tiOf P t = some i ∧ tabOkFrom P (t + 1) r
def TabOk (T : List TI) (P : Program) : Prop := ∀ t i, getT T t = some i → tiOf P t = some i
theorem tabOk_of_from {P : Program} : ∀ {T : List TI} {t0 : Nat}, tabOkFrom P t0 T → ∀ t i, getT T t = some i → tiOf P (t0 + t) = some i
  | [], _, _, t, i, h => by simp [getT] at h
  | j :: r, t0, ⟨h1, h2⟩, t, i, h => by
    cases t with
    | zero => simp [getT] at h; subst h; exact h1
    | succ t => have := tabOk_of_from h2 t i (by simpa [getT] using h); rw [show t0 + (t + 1) = t0 + 1 + t by omega]; exact this
theorem tabOk_of {P : Program} {T : List TI} (h : tabOkFrom P 0 T) : TabOk T P := fun t i hi => by simpa using tabOk_of_from h t i hi
/-- The table, made of the program. -/
def mkTab (P : Program) : Nat → Nat → Option (List TI)
  | 0, _ => some []
  | n + 1, t => match tiOf P t with
    | none => none
    | some i => match mkTab P n (t + 1) with
      | none => none
      | some r => some (i :: r)
theorem tabOkFrom_mk {P : Program} : ∀ {n t : Nat} {T : List TI}, mkTab P n t = some T → tabOkFrom P t T
  | 0, _, _, h => by simp [mkTab] at h; subst h; trivial
  | n + 1, t, T, h => by
    simp only [mkTab] at h
    split at h
    · cases h
    · rename_i i hi
      split at h
      · cases h
      · rename_i r hr
        injection h with h
        subst h
        exact ⟨hi, tabOkFrom_mk hr⟩
theorem tabOk_mk {P : Program} {n : Nat} {T : List TI} (h : mkTab P n 0 = some T) : TabOk T P := tabOk_of (tabOkFrom_mk h)

structure TInfo (P : Program) (t : TypeId) (i : TI) where
  ti : TypeInfo
  desc : TypeDesc
  info : P.info? t = some ti
  und : P.underlying t = some desc
  size : ti.size = i.size
  bytes : ti.bytes = i.bytes
  agg : i.agg = isAggD desc
  zero : i.zero = ti.zero.map fun z => z.cells.toList
  zag : i.zag = (match ti.zero with | some (.agg _) => true | _ => false)
  d : tdOf P desc = some i.d
theorem TabOk.get {T : List TI} {P : Program} (h : TabOk T P) {t : TypeId} {i : TI} (ht : getT T t = some i) : Nonempty (TInfo P t i) := by
  have h := h t i ht
  unfold tiOf at h
  split at h
  · rename_i ti d h1 h2
    split at h
    · rename_i td h3
      injection h with h
      subst h
      exact ⟨⟨ti, d, h1, h2, rfl, rfl, rfl, by cases ti.zero <;> rfl, rfl, h3⟩⟩
    · cases h
  · cases h
theorem partOf_eq {P : Program} {t : TypeId} {n : Nat} {b : Bool} (h : partOf P t = some (n, b)) : ∃ i d, P.info? t = some i ∧ P.underlying t = some d ∧ i.size = n ∧ isAggD d = b := by
  unfold partOf at h
  split at h
  · rename_i i d h1 h2; simp at h; exact ⟨i, d, h1, h2, h.1, h.2⟩
  · cases h
theorem run_sizeOf' {P : Program} {t : TypeId} {i : TypeInfo} (h : P.info? t = some i) (w : World) : (sizeOf t).run P w = .ok i.size w := by simp [sizeOf, typeInfo, h]
theorem run_isAgg' {P : Program} {t : TypeId} {d : TypeDesc} (h : P.underlying t = some d) (w : World) : (isAgg t).run P w = .ok (isAggD d) w := by
  unfold isAgg
  rw [Sem.run_bind, run_underlying h]
  cases d <;> simp [isAggD]
theorem fieldsOf_mapM {P : Program} : ∀ {fs : List Field} {l : List (Nat × Nat × Bool)}, fieldsOf P fs = some l →
    fs.mapM (fun f => (P.info? f.type).map fun i => (f.offset, i.size)) = some (l.map fun x => (x.1, x.2.1))
  | [], _, h => by simp [fieldsOf] at h; subst h; rfl
  | f :: r, _, h => by
    simp only [fieldsOf] at h
    split at h
    · rename_i p l hp hl
      injection h with h
      subst h
      obtain ⟨n, b⟩ := p
      obtain ⟨i, d, h1, h2, h3, h4⟩ := partOf_eq hp
      simp [List.mapM_cons, h1, h3, fieldsOf_mapM hl]
    · cases h
theorem fieldsOf_get {P : Program} : ∀ {fs : List Field} {l : List (Nat × Nat × Bool)}, fieldsOf P fs = some l → ∀ {k o n : Nat} {b : Bool}, l[k]? = some (o, n, b) →
    ∃ f, fs[k]? = some f ∧ f.offset = o ∧ partOf P f.type = some (n, b)
  | [], _, h, k, o, n, b, hk => by simp [fieldsOf] at h; subst h; simp at hk
  | f :: r, _, h, k, o, n, b, hk => by
    simp only [fieldsOf] at h
    split at h
    · rename_i p l hp hl
      injection h with h
      subst h
      cases k with
      | zero => simp at hk; exact ⟨f, by simp, hk.1, by rw [hp, hk.2]⟩
      | succ k => simp at hk; obtain ⟨g, h1, h2, h3⟩ := fieldsOf_get hl hk; exact ⟨g, by simpa using h1, h2, h3⟩
    · cases h
section
variable {P : Program} {t : TypeId} {i : TI} (w : World)
theorem TInfo.run_size (h : TInfo P t i) : (sizeOf t).run P w = .ok i.size w := by simp [sizeOf, typeInfo, h.info, h.size]
theorem TInfo.run_und (h : TInfo P t i) : (underlying t).run P w = .ok h.desc w := run_underlying h.und w
theorem TInfo.run_agg (h : TInfo P t i) : (isAgg t).run P w = .ok i.agg w := by
  rw [h.agg]
  unfold isAgg
  rw [Sem.run_bind, h.run_und]
  cases h.desc <;> simp [isAggD]
end

/-! ### Boxes -/
section
variable {β : Gh} {H : Hp} {w : World}
/-- A box more. -/
theorem Rep.newBx (R : Rep β H w) {x : Bx} {o : Obj} (hx : BxOk ⟨β.b ++ [w.heap.size], β.g⟩ (w.alloc o) w.heap.size x) :
    Rep ⟨β.b ++ [w.heap.size], β.g⟩ { H with nb := H.nb + 1, boxes := H.boxes ++ [x] } (w.alloc o) ∧
      Ext β H w ⟨β.b ++ [w.heap.size], β.g⟩ { H with nb := H.nb + 1, boxes := H.boxes ++ [x] } (w.alloc o) := by
  have hpre : Gle β ⟨β.b ++ [w.heap.size], β.g⟩ := ⟨List.prefix_append _ _, fun _ _ h => h⟩
  have hown : ∀ b ∈ owned ⟨β.b ++ [w.heap.size], β.g⟩ { H with nb := H.nb + 1, boxes := H.boxes ++ [x] }, b ∈ owned β H ∨ b = w.heap.size := by
    intro b hb
    simp only [owned, List.append_assoc, List.mem_append, List.mem_singleton] at hb ⊢
    rcases hb with hb | hb | hb
    · exact .inl (.inl hb)
    · exact .inr hb
    · exact .inl (.inr hb)
  have hnew : w.heap.size ∉ owned β H := fun h => Nat.lt_irrefl _ (R.blt _ h)
  have hsz : w.heap.size ≤ (w.alloc o).heap.size := by simp
  refine ⟨⟨?_, by simp [R.nb], ?_, ?_, ?_, ?_⟩, ⟨hpre, ⟨rfl, rfl, rfl, by simp, fun k hk _ => Go.RowKit.Below.heap_alloc _ _ _ hk⟩, ?_, fun _ _ h => .inl h⟩⟩
  · simp [R.len]
  · intro i y b hi hb
    rcases Nat.lt_or_ge i H.boxes.length with hlt | hge
    · rw [List.getElem?_append_left hlt] at hi
      simp only [List.getElem?_append_left (R.len ▸ hlt)] at hb
      have h1 := R.box i y b hi hb
      exact h1.mono hpre hsz (Go.RowKit.Below.heap_alloc _ _ _ h1.lt)
    · have hi' : i = H.boxes.length := by
        have := (List.getElem?_eq_some_iff.1 hi).1
        simp at this; omega
      subst hi'
      rw [List.getElem?_append_right (Nat.le_refl _)] at hi
      simp only [List.getElem?_append_right (show β.b.length ≤ H.boxes.length by rw [R.len]; exact Nat.le_refl _)] at hb
      simp [R.len] at hi hb
      subst hi; subst hb
      exact hx
  · intro r hr
    exact (R.row r hr).mono hpre hsz fun b hb => Go.RowKit.Below.heap_alloc _ _ _ ((R.row r hr).lt hb)
  · have : (owned ⟨β.b ++ [w.heap.size], β.g⟩ { H with nb := H.nb + 1, boxes := H.boxes ++ [x] }) = β.b ++ ([w.heap.size] ++ H.rows.filterMap Row.blk) := by simp [owned]
    rw [this]
    have h2 := R.nd
    have h3 : (w.heap.size :: owned β H).Nodup := List.nodup_cons.2 ⟨hnew, h2⟩
    refine (List.Perm.nodup_iff ?_).1 h3
    unfold owned
    exact (List.perm_middle (l₁ := β.b) (a := w.heap.size) (l₂ := H.rows.filterMap Row.blk)).symm
  · intro a v hg
    obtain ⟨h1, h2⟩ := R.g a v hg
    have hlt := World.block_lt_of_cell? w a h1
    refine ⟨?_, ?_⟩
    · rw [World.cell?_of_block (w := w) (Go.RowKit.Below.heap_alloc _ _ _ hlt)]; exact h1
    · intro hm
      rcases hown _ hm with h | h
      · exact h2 h
      · omega
  · intro b hb
    rcases hown b hb with h | h
    · exact .inl h
    · exact .inr (by omega)
theorem Rep.new (R : Rep β H w) {cs : List SV} {xs : List Value} (hd : DenL β cs xs) (t : TypeId) :
    Rep ⟨β.b ++ [w.heap.size], β.g⟩ { H with nb := H.nb + 1, boxes := H.boxes ++ [.c cs] } (w.alloc (.cells xs.toArray t)) ∧
      Ext β H w ⟨β.b ++ [w.heap.size], β.g⟩ { H with nb := H.nb + 1, boxes := H.boxes ++ [.c cs] } (w.alloc (.cells xs.toArray t)) :=
  R.newBx (x := .c cs) ⟨xs, t, DenL.mono (show Gle β ⟨β.b ++ [w.heap.size], β.g⟩ from ⟨List.prefix_append _ _, fun _ _ h => h⟩) _ _ hd, heap_alloc_new _ _⟩

theorem Rep.box_at (R : Rep β H w) {i : Nat} {x : Bx} (hi : H.boxes[i]? = some x) : ∃ b, β.b[i]? = some b ∧ BxOk β w b x := by
  have hlt := (List.getElem?_eq_some_iff.1 hi).1
  have hb : β.b[i]? = some (β.b[i]'(by rw [R.len]; exact hlt)) := List.getElem?_eq_getElem _
  exact ⟨_, hb, R.box i x _ hi hb⟩

theorem Rep.notrow (R : Rep β H w) {b : Nat} (hb : b ∈ β.b) {r : Row} (hr : r ∈ H.rows) : r.blk ≠ some b := fun e =>
  (List.nodup_append.1 R.nd).2.2 b hb b (List.mem_filterMap.2 ⟨r, hr, e⟩) rfl

/-- A box's block gets another content. -/
theorem Rep.setBx (R : Rep β H w) {i b : Nat} {x x' : Bx} {w' : World} (hi : H.boxes[i]? = some x) (hb : β.b[i]? = some b)
    (hw : w'.os = w.os ∧ w'.tape = w.tape ∧ w'.output = w.output ∧ w'.heap.size = w.heap.size) (ho : ∀ k, k ≠ b → w'.heap[k]? = w.heap[k]?) (hx : BxOk β w' b x') :
    Rep β { H with boxes := H.boxes.set i x' } w' ∧ Ext β H w β { H with boxes := H.boxes.set i x' } w' := by
  have hbm : b ∈ owned β H := List.mem_append_left _ (List.mem_of_getElem? hb)
  have hnd : β.b.Nodup := (List.nodup_append.1 R.nd).1
  obtain ⟨hw1, hw2, hw3, hw4⟩ := hw
  refine ⟨⟨by simp [R.len], by simp [R.nb], ?_, ?_, R.nd, ?_⟩, ⟨Gle.refl _, ⟨hw1, hw2, hw3, by omega, fun k _ hk => ho k (fun e => hk (e ▸ hbm))⟩, fun _ h => .inl h, fun _ _ h => .inl h⟩⟩
  · intro j y b1 hj hb1
    by_cases hij : i = j
    · subst hij
      have hlt := (List.getElem?_eq_some_iff.1 hi).1
      simp only [List.getElem?_set_self hlt, Option.some.injEq] at hj
      subst hj
      obtain rfl : b = b1 := by rw [hb] at hb1; exact Option.some.inj hb1
      exact hx
    · simp only [List.getElem?_set_ne hij] at hj
      refine (R.box j y b1 hj hb1).mono (Gle.refl _) (by omega) (ho b1 ?_)
      intro e
      subst e
      exact hij ((List.getElem?_inj (List.getElem?_eq_some_iff.1 hb).1 hnd).1 (hb.trans hb1.symm))
  · intro r hr
    exact (R.row r hr).mono (Gle.refl _) (by omega) fun k hk => ho k (fun e => R.notrow (List.mem_of_getElem? hb) hr (e ▸ hk))
  · intro a v hg
    obtain ⟨h1, h2⟩ := R.g a v hg
    exact ⟨by rw [World.cell?_of_block (w := w) (ho a.block (fun e => h2 (e ▸ hbm)))]; exact h1, h2⟩
theorem Rep.set (R : Rep β H w) {i b : Nat} {cs cs' : List SV} {xs' : List Value} (hi : H.boxes[i]? = some (.c cs)) (hb : β.b[i]? = some b) (hd : DenL β cs' xs') :
    Rep β { H with boxes := H.boxes.set i (.c cs') } (w.setRow b xs'.toArray) ∧ Ext β H w β { H with boxes := H.boxes.set i (.c cs') } (w.setRow b xs'.toArray) := by
  obtain ⟨xs, t, _, hh⟩ := R.box i _ b hi hb
  exact R.setBx hi hb ⟨rfl, rfl, rfl, by simp⟩ (fun k hk => setRow_other _ _ _ _ hk) ⟨xs', t, hd, setRow_heap w b xs.toArray _ t _ hh⟩
end

/-! ### Lists, made whole -/
/-- Hands on a list whose spine is there. -/
def lf {α : Type} : List α → (List α → Prop) → Prop
  | [], k => k []
  | x :: r, k => lf r fun l => k (x :: l)
theorem lf_eq {α : Type} : ∀ (l : List α) (k : List α → Prop), lf l k = k l
  | [], _ => rfl
  | x :: r, k => by simp only [lf]; exact lf_eq r _
def nd {α : Type} : Option α → (α → Prop) → Prop
  | some a, k => k a
  | none, _ => False
theorem nd_elim {α : Type} {o : Option α} {k : α → Prop} (h : nd o k) : ∃ a, o = some a ∧ k a := by
  cases o with
  | none => exact h.elim
  | some a => exact ⟨a, rfl, h⟩
def nth {α : Type} : List α → Nat → Option α
  | [], _ => none
  | x :: _, 0 => some x
  | _ :: r, i + 1 => nth r i
theorem nth_eq {α : Type} : ∀ (l : List α) (i : Nat), nth l i = l[i]?
  | [], _ => rfl
  | x :: _, 0 => rfl
  | _ :: r, i + 1 => by simp only [nth, nth_eq r i]; simp
/-- So many from a place on. -/
def sub {α : Type} (l : List α) (o n : Nat) : Option (List α) :=
  match Nat.ble (o + n) l.length with
  | true => some ((l.drop o).take n)
  | false => none
theorem sub_eq {α : Type} {l : List α} {o n : Nat} {l' : List α} (h : sub l o n = some l') : o + n ≤ l.length ∧ l' = (l.drop o).take n := by
  unfold sub at h
  split at h
  · rename_i hb; injection h with h; exact ⟨Nat.le_of_ble_eq_true hb, h.symm⟩
  · cases h
/-- Others in their place. -/
def splice {α : Type} (l : List α) (o : Nat) (m : List α) : Option (List α) :=
  match Nat.ble (o + m.length) l.length with
  | true => some (l.take o ++ m ++ l.drop (o + m.length))
  | false => none
theorem splice_eq {α : Type} {l : List α} {o : Nat} {m l' : List α} (h : splice l o m = some l') : o + m.length ≤ l.length ∧ l' = l.take o ++ m ++ l.drop (o + m.length) := by
  unfold splice at h
  split at h
  · rename_i hb; injection h with h; exact ⟨Nat.le_of_ble_eq_true hb, h.symm⟩
  · cases h
theorem DenL.sub {β : Gh} {l : List SV} {ys : List Value} {o n : Nat} {l' : List SV} (hd : DenL β l ys) (h : sub l o n = some l') : DenL β l' ((ys.drop o).take n) := by
  obtain ⟨_, rfl⟩ := sub_eq h
  exact DenL.take n (DenL.drop o hd)
theorem DenL.splice {β : Gh} {l : List SV} {ys : List Value} {o : Nat} {m l' : List SV} {zs : List Value} (hd : DenL β l ys) (hm : DenL β m zs) (h : splice l o m = some l') :
    DenL β l' (ys.take o ++ zs ++ ys.drop (o + zs.length)) := by
  obtain ⟨_, rfl⟩ := splice_eq h
  have := hm.length
  exact DenL.append (DenL.append (DenL.take o hd) hm) (this ▸ DenL.drop _ hd)

/-! ### What an operation does -/
/-- A piece of the model's work, done from a state: it comes to a state of which k holds. -/
def Goes (P : Program) (β : Gh) (H : Hp) (w : World) (m : Sem Next) (k : SV → Hp → Prop) : Prop :=
  ∃ y w' β' s H', (m.run P w = .ok (.value y) w' ∨ (m.run P w = .ok .skip w' ∧ y = undef)) ∧ Den β' s y ∧ Rep β' H' w' ∧ Ext β H w β' H' w' ∧ k s H'
theorem Goes.stay {P : Program} {β : Gh} {H : Hp} {w : World} (R : Rep β H w) {m : Sem Next} {k : SV → Hp → Prop} {y : Value} {s : SV}
    (hm : m.run P w = .ok (.value y) w) (hd : Den β s y) (hk : k s H) : Goes P β H w m k := ⟨y, w, β, s, H, .inl hm, hd, R, Ext.refl _ _ _, hk⟩
theorem Goes.plain {P : Program} {β : Gh} {H : Hp} {w : World} (R : Rep β H w) {m : Sem Next} {k : SV → Hp → Prop} {y : Value}
    (hm : m.run P w = .ok (.value y) w) (hk : k (.v y) H) : Goes P β H w m k := .stay R hm (s := .v y) rfl hk

end Go.Sy

