import Derived.Test.YtmjpidjdbofdjaaGreatYS
import Derived.ChangeKeysEq
import Derived.Laws.StructEq
import Derived.WalkKit
import Derived.ProofKit
import Derived.OpenShut
import Derived.ShutString
import Derived.ChangeOld
import Derived.SizedLaws
import Derived.Carry
import Derived.Laws.LoneSync
/- Sy, part U: how structs and arrays of plain things compare. Sy, part V: from a contract to the rows' words; how arguments read. Sy, part W: rows are handed over within a function: from then on they are values that nobody writes. Sy, part X: calls that were deferred, made where a function is left. Sy, part Z: the library's atomics, and its marks. -/
set_option linter.unusedVariables false
set_option linter.unusedSimpArgs false
namespace Go.Sy
open Go

section
variable {P : Program}
def nums (k : IntKind) (xs : List Int) : List SV := xs.map fun x => .v (.int k x)
theorem nums_den {β : Gh} {k : IntKind} : ∀ {xs : List Int} {ys : List Value}, DenL β (nums k xs) ys → ys = xs.map (.int k)
  | [], _, h => h
  | x :: r, _, ⟨y, zs, h1, h2, h3⟩ => by
    simp only [Den] at h1
    rw [h3, h1, nums_den h2]
    rfl
theorem eqItems_ints {e : TypeId} {kd : IntKind} {i : TypeInfo} (he : P.underlying e = some (.int kd)) (hi : P.info? e = some i) (hc : i.size = 1) (d : Nat) (k : IntKind) (xs ys : List Int) (w : World) :
    ∀ (is : List Nat), (∀ j ∈ is, j < xs.length ∧ j < ys.length) → (Op.eqItems (d + 1) e 1 (xs.map (Value.int k)).toArray (ys.map (Value.int k)).toArray is).run P w = .ok (is.all fun j => xs[j]? == ys[j]?) w
  | [], _ => by simp [Op.eqItems]
  | j :: is, h => by
    obtain ⟨h1, h2⟩ := h j (by simp)
    have part_int : ∀ (zs : List Int) (hz : j < zs.length), (part e (zs.map (Value.int k)).toArray (j * 1)).run P w = .ok (.int k zs[j]) w := by
      intro zs hz
      have ha : (isAgg e).run P w = .ok false w := run_isAgg' he w
      simp [part, ha, hz]
    have e1 : xs[j]? = some xs[j] := List.getElem?_eq_getElem h1
    have e2 : ys[j]? = some ys[j] := List.getElem?_eq_getElem h2
    simp only [Op.eqItems, Sem.run_bind, part_int xs h1, part_int ys h2, Result.andThen_ok, run_equalIn_int w d e k kd _ _ he]
    have ih := eqItems_ints he hi hc d k xs ys w is (fun j hj => h j (by simp [hj]))
    cases hb : (xs[j] == ys[j])
    · have : ((xs[j]? == ys[j]?) = false) := by rw [e1, e2]; simpa using hb
      simp [this]
    · have : ((xs[j]? == ys[j]?) = true) := by rw [e1, e2]; simpa using hb
      simp [this, ih]
theorem all_range_eq {xs ys : List Int} {n : Nat} (hx : xs.length = n) (hy : ys.length = n) : ((List.range n).all fun j => xs[j]? == ys[j]?) = decide (xs = ys) := by
  rw [Bool.eq_iff_iff]
  simp only [List.all_eq_true, List.mem_range, beq_iff_eq, decide_eq_true_eq]
  constructor
  · intro h
    apply List.ext_getElem?
    intro j
    rcases Nat.lt_or_ge j n with hj | hj
    · exact h j hj
    · rw [List.getElem?_eq_none (by omega), List.getElem?_eq_none (by omega)]
  · intro h j _; rw [h]
theorem AggEq.ints {t e : TypeId} {n : Nat} {kd : IntKind} {i : TypeInfo} (ht : P.underlying t = some (.array n e)) (he : P.underlying e = some (.int kd)) (hi : P.info? e = some i) (hc : i.size = 1)
    (hg : P.eqGuardType P.depth t = false) {k : IntKind} {xs ys : List Int} (hx : xs.length = n) (hy : ys.length = n) {K : Bool → Prop} (h : K (decide (xs = ys))) : AggEq P .eql t (nums k xs) (nums k ys) K := by
  refine ⟨_, fun β w ox oy as bs ha hb => ?_, h⟩
  rw [nums_den ha, nums_den hb]
  have hcell : P.cellsOf e = 1 := by simp [Program.cellsOf, hi, hc]
  simp only [Sem.run_bind, run_eqGuard_agg w .eql t ox oy _ _ hg, Result.andThen_ok, run_eql_struct w t]
  have := run_equalIn_array w 9999 (xs.map (Value.int k)).toArray (ys.map (Value.int k)).toArray ht hi
  rw [show (10000 : Nat) = 9999 + 1 from rfl, this, hcell]
  have h2 := eqItems_ints he hi hc 9998 k xs ys w (List.range n) (fun j hj => by simp at hj; omega)
  rw [show (9999 : Nat) = 9998 + 1 from rfl, h2, all_range_eq hx hy]
  rfl
end
end Go.Sy
namespace Go.Sy
open Go Go.RowKit Go.ChangeShapes
/-- All that can be read in a world. -/
def allOf (w : World) : Addr → Option Value := fun a => w.cell? a
theorem Fc.calls {P : Program} {f : FuncId} {args : List SV} {w : World} {xs : List Value} {x : Value} (h : Fc P f args (.v x)) (hd : DenL ⟨[], allOf w⟩ args xs)
    (hf : ∃ fn, P.funcs[f]? = some fn ∧ fn.body.isSome = true ∧ (fn.name == "runtime.NumGoroutine") = false) :
    Calls P f xs.toArray w fun e w' => e = .returned x ∧ Below w.heap.size w w' := by
  have R : Rep ⟨[], allOf w⟩ ⟨0, [], []⟩ w := ⟨rfl, rfl, fun i cs b h => by simp at h, fun r hr => by simp at hr, by simp [owned], fun a v hg => ⟨hg, by simp [owned]⟩⟩
  rcases (h ⟨0, [], []⟩).run _ w xs R hd with ⟨_, h⟩ | ⟨y, w', h, _⟩
  · refine h.mono ?_
    rintro e w' ⟨y, rfl, r, H', β', h1, h2, h3, rfl, _⟩
    simp only [Den] at h1
    exact ⟨by rw [h1], ⟨h3.fr.os, h3.fr.tape, h3.fr.output, h3.fr.size, fun k hk => h3.fr.block k hk (by simp [owned])⟩⟩
  · obtain ⟨fn, hf, hb, hn⟩ := hf
    rw [run_callFunc hf hb hn] at h
    cases h

/-- How a value of a type lies in memory. -/
def Shp (P : Program) (g : Addr → Option Value) : Nat → TypeId → List Value → Prop
  | 0, _, _ => False
  | f + 1, t, cs => match P.underlying t with
    | some .bool => ∃ b, cs = [.bool b]
    | some (.int k) => ∃ n, cs = [.int k n] ∧ (Lit.int k n).wf = true
    | some .string => ∃ s, cs = [.string s] ∧ s.size ≤ maxLen
    | some (.struct fs) => cs.length = P.cellsOf t ∧ ∀ x ∈ fs.toList, Shp P g f x.type ((cs.drop x.offset).take (P.cellsOf x.type))
    | some (.array n e) => cs.length = P.cellsOf t ∧ ∀ i, i < n → Shp P g f e ((cs.drop (i * P.cellsOf e)).take (P.cellsOf e))
    | some (.slice e) => ∃ A n c, cs = [.slice A n c] ∧ n ≤ c ∧ c ≤ maxLen ∧ ((A = none ∧ n = 0 ∧ c = 0) ∨ ∃ a, A = some a ∧
        ∀ i, i < n → ∃ vs, vs.length = P.cellsOf e ∧ (∀ j u, vs[j]? = some u → g ((a.add (i * P.cellsOf e)).add j) = some u) ∧ Shp P g f e vs)
    | _ => True

section
variable {H : Type} {enc : TypeId × Value → H} {P : Program} {w : World}
theorem cells?_facts {base : Nat} {a : Addr} {n : Nat} {cs : List Value} (h : w.cells? base a n = some cs) : cs.length = n ∧ ∀ (j : Nat) (u : Value), cs[j]? = some u → w.cell? (a.add j) = some u := by
  unfold World.cells? at h
  split at h
  · have h1 : ∀ (l : List Nat) (cs : List Value), l.mapM (fun i => w.cell? (a.add i)) = some cs → cs.length = l.length ∧ ∀ (j i : Nat) (u : Value), l[j]? = some i → cs[j]? = some u → w.cell? (a.add i) = some u := by
      intro l
      induction l with
      | nil => intro cs h; simp at h; subst h; exact ⟨rfl, fun j i u h => by simp at h⟩
      | cons x l ih =>
        intro cs h
        simp only [List.mapM_cons, Option.bind_eq_bind, Option.bind_eq_some_iff] at h
        obtain ⟨y, hy, ys, hys, he⟩ := h
        injection he with he
        subst he
        obtain ⟨h2, h3⟩ := ih ys hys
        refine ⟨by simp [h2], fun j i u hj hu => ?_⟩
        cases j with
        | zero => simp at hj hu; subst hj; subst hu; exact hy
        | succ j => simp at hj hu; exact h3 j i u hj hu
    obtain ⟨h2, h3⟩ := h1 _ _ h
    refine ⟨by simpa using h2, fun j u hu => h3 j j u ?_ hu⟩
    have := (List.getElem?_eq_some_iff.1 hu).1
    rw [List.getElem?_range (by simpa [h2] using this)]
  · cases h
theorem mapM_some {α β : Type} {f : α → Option β} : ∀ {l : List α} {ys : List β}, l.mapM f = some ys → ∀ x ∈ l, ∃ y, f x = some y
  | [], _, _, x, hx => by simp at hx
  | a :: l, ys, h, x, hx => by
    simp only [List.mapM_cons, Option.bind_eq_bind, Option.bind_eq_some_iff] at h
    obtain ⟨y, hy, ys', hys, _⟩ := h
    rcases List.mem_cons.1 hx with rfl | hx
    · exact ⟨y, hy⟩
    · exact mapM_some hys x hx

theorem shp_of_trod {base : Nat} {spare : Nat → Bool} {held : Bool} : ∀ (fuel : Nat) (t : TypeId) (cs : List Value) (x : DataW H × List MemPlace), DataW.trod enc P w base spare held fuel t cs = some x → Shp P (allOf w) fuel t cs
  | 0, t, cs, x, h => by simp [DataW.trod] at h
  | fuel + 1, t, cs, x, h => by
    unfold DataW.trod at h
    unfold Shp
    split at h
    case h_1 b hu => simp only [hu]; exact ⟨b, rfl⟩
    case h_2 k k' n hu =>
      simp only [hu]
      split at h
      · rename_i hk; obtain ⟨rfl, hk⟩ := hk; exact ⟨n, rfl, hk⟩
      · cases h
    case h_3 => simp_all
    case h_4 s hu =>
      simp only [hu]
      split at h
      · rename_i hk; exact ⟨s, rfl, hk⟩
      · cases h
    case h_5 hu => simp only [hu]
    case h_6 hu => simp only [hu]
    case h_7 hu => simp only [hu]; exact ⟨none, 0, 0, rfl, Nat.le_refl _, Nat.zero_le _, .inl ⟨rfl, rfl, rfl⟩⟩
    case h_8 e a len cap hu =>
      simp only [hu]
      split at h
      · rename_i hk
        obtain ⟨_, h1, h2⟩ := hk
        refine ⟨some a, len, cap, rfl, h1, h2, .inr ⟨a, rfl, fun i hi => ?_⟩⟩
        simp only [Option.bind_eq_some_iff] at h
        obtain ⟨ys, hys, _⟩ := h
        obtain ⟨y, hy⟩ := mapM_some hys i (by simp [hi])
        simp only [Option.bind_eq_some_iff] at hy
        obtain ⟨vs, hvs, hy⟩ := hy
        obtain ⟨h3, h4⟩ := cells?_facts hvs
        exact ⟨vs, h3, fun j u hj => h4 j u hj, shp_of_trod fuel e vs y hy⟩
      · cases h
    case h_9 fs cs' hu =>
      simp only [hu]
      split at h
      · rename_i hl
        refine ⟨hl, fun x hx => ?_⟩
        simp only [Option.map_eq_some_iff] at h
        obtain ⟨ys, hys, _⟩ := h
        obtain ⟨y, hy⟩ := mapM_some hys x hx
        exact shp_of_trod fuel _ _ y hy
      · cases h
    case h_10 n e cs' hu =>
      simp only [hu]
      split at h
      · rename_i hl
        refine ⟨hl, fun i hi => ?_⟩
        simp only [Option.map_eq_some_iff] at h
        obtain ⟨ys, hys, _⟩ := h
        obtain ⟨y, hy⟩ := mapM_some hys i (by simp [hi])
        exact shp_of_trod fuel _ _ y hy
      · cases h
    all_goals first
      | (rename_i hu; simp only [hu])
      | simp_all
/-- How a value of a type is told. -/
def Opn (P : Program) (g : Addr → Option Value) (t : TypeId) {α : Type} (S : α → SV) : Prop :=
  ∀ (f : Nat) (cs : List Value), Shp P g f t cs → ∃ (x : α) (y : Value), Den ⟨[], g⟩ (S x) y ∧ y.cells.toList = cs ∧ ∀ u ∈ cs, u.oneCell' = true
theorem Opn.int {P : Program} {g : Addr → Option Value} {t : TypeId} {k : IntKind} (h : P.underlying t = some (.int k)) : Opn P g t fun n : Int => .v (.int k n) := by
  intro f cs hs
  cases f with
  | zero => exact hs.elim
  | succ f =>
    unfold Shp at hs
    rw [h] at hs
    obtain ⟨n, rfl, _⟩ := hs
    exact ⟨n, _, rfl, rfl, by simp [Value.oneCell']⟩
theorem Opn.bool {P : Program} {g : Addr → Option Value} {t : TypeId} (h : P.underlying t = some .bool) : Opn P g t fun b : Bool => .v (.bool b) := by
  intro f cs hs
  cases f with
  | zero => exact hs.elim
  | succ f =>
    unfold Shp at hs
    rw [h] at hs
    obtain ⟨b, rfl⟩ := hs
    exact ⟨b, _, rfl, rfl, by simp [Value.oneCell']⟩
theorem Opn.string {P : Program} {g : Addr → Option Value} {t : TypeId} (h : P.underlying t = some .string) : Opn P g t fun b : ByteArray => .v (.string b) := by
  intro f cs hs
  cases f with
  | zero => exact hs.elim
  | succ f =>
    unfold Shp at hs
    rw [h] at hs
    obtain ⟨b, rfl, _⟩ := hs
    exact ⟨b, _, rfl, rfl, by simp [Value.oneCell']⟩
theorem elems_of {P : Program} {g : Addr → Option Value} {e : TypeId} {α : Type} {S : α → SV} (he : Opn P g e S) {f sz : Nat} (hsz : P.cellsOf e = sz) {a : Addr} : ∀ (n : Nat), (∀ i, i < n → ∃ vs, vs.length = P.cellsOf e ∧ (∀ (j : Nat) (u : Value), vs[j]? = some u → g ((a.add (i * P.cellsOf e)).add j) = some u) ∧ Shp P g f e vs) →
    ∃ (l : List α) (ws : List Value), DenL ⟨[], g⟩ (l.map S) ws ∧ ws.length = n ∧ (∀ w ∈ ws, w.cells.size = sz) ∧ (∀ u ∈ cellsL ws, u.oneCell' = true) ∧ (cellsL ws).length = n * sz ∧ ∀ (j : Nat) (u : Value), (cellsL ws)[j]? = some u → g (a.add j) = some u
  | 0, _ => ⟨[], [], rfl, rfl, by simp, by simp [cellsL_nil], by simp [cellsL_nil], fun j u h => by simp [cellsL_nil] at h⟩
  | n + 1, h => by
    obtain ⟨l, ws, h1, h2, h3, h4, h5, h6⟩ := elems_of he hsz n fun i hi => h i (by omega)
    obtain ⟨vs, g1, g2, g3⟩ := h n (by omega)
    obtain ⟨x, y, g4, g5, g6⟩ := he f vs g3
    have hcl : cellsL (ws ++ [y]) = cellsL ws ++ vs := by rw [cellsL_append, cellsL_cons, cellsL_nil, g5]; simp
    refine ⟨l ++ [x], ws ++ [y], ?_, by simp [h2], fun w hw => ?_, fun u hu => ?_, ?_, fun j u hu => ?_⟩
    · rw [List.map_append]; exact h1.append ⟨y, [], g4, rfl, rfl⟩
    · rcases List.mem_append.1 hw with hw | hw
      · exact h3 w hw
      · simp at hw; subst hw
        have : w.cells.toList.length = sz := by rw [g5, g1, hsz]
        simpa using this
    · rw [hcl] at hu
      rcases List.mem_append.1 hu with hu | hu
      · exact h4 u hu
      · exact g6 u hu
    · rw [hcl, List.length_append, h5, g1, hsz, Nat.add_mul, Nat.one_mul]
    · rw [hcl] at hu
      rcases Nat.lt_or_ge j (n * sz) with hlt | hge
      · rw [List.getElem?_append_left (by omega)] at hu
        exact h6 j u hu
      · rw [List.getElem?_append_right (by omega), h5] at hu
        have := g2 _ u hu
        rw [hsz, add_add] at this
        rw [show n * sz + (j - n * sz) = j by omega] at this
        exact this
theorem Opn.slice {P : Program} {g : Addr → Option Value} {t e : TypeId} {α : Type} {S : α → SV} {sz : Nat} (h : P.underlying t = some (.slice e)) (he : Opn P g e S) (hsz : P.cellsOf e = sz) : Opn P g t fun l : List α => .lst false sz (l.map S) := by
  intro f cs hs
  cases f with
  | zero => exact hs.elim
  | succ f =>
    unfold Shp at hs
    rw [h] at hs
    obtain ⟨A, n, c, rfl, h1, h2, h3⟩ := hs
    refine h3.elim ?_ ?_
    · rintro ⟨rfl, rfl, rfl⟩
      exact ⟨[], .slice none 0 0, ⟨none, 0, 0, [], rfl, slOk_nil _ _ _, rfl⟩, rfl, by simp [Value.oneCell']⟩
    · rintro ⟨a, rfl, h9⟩
      obtain ⟨l, ws, g1, g2, g3, g4, g5, g6⟩ := elems_of he hsz n h9
      exact ⟨l, .slice (some a) n c, ⟨some a, n, c, ws, g1, ⟨g2, h1, h2, (fun e => by cases e), (fun e => by cases e), g3, g4, fun b hb j u hu => by injection hb with hb; subst hb; exact g6 j u hu⟩, rfl⟩, rfl, by simp [Value.oneCell']⟩
theorem opn_agg {g : Addr → Option Value} {l : List SV} {y : Value} {c : Array Value} (h : Den ⟨[], g⟩ (.agg l) y) (hc : y.cells.toList = (Value.agg c).cells.toList) : Den ⟨[], g⟩ (.agg l) (.agg c) := by
  obtain ⟨xs, h1, rfl⟩ := h
  have : xs = c.toList := by simpa [Value.cells] using hc
  subst this
  exact ⟨_, h1, by simp⟩
theorem opn_one {g : Addr → Option Value} {s : SV} {y x : Value} (h : Den ⟨[], g⟩ s y) (hc : y.cells.toList = [x]) (hn : one s = true) : Den ⟨[], g⟩ s x := by
  have h1 := one_cell hn h
  have : y.cells.toList = [y] := by
    cases y <;> first | rfl | (simp [Value.oneCell'] at h1)
  rw [this] at hc
  injection hc with hc _
  exact hc ▸ h
end
end Go.Sy
namespace Go.Sy
open Go
section
variable {P : Program} {β : Gh} {H : Hp} {w : World}
def frz (r : Row) : Row := match r with | ⟨A, n, c, e, sz, es, _⟩ => ⟨A, n, c, e, sz, es, true⟩
def frzL : List Row → List Row
  | [] => []
  | r :: l => frz r :: frzL l
theorem frzL_eq : ∀ l : List Row, frzL l = l.map frz
  | [] => rfl
  | r :: l => by rw [frzL, frzL_eq l]; rfl
theorem frz_blk (r : Row) : (frz r).blk = none := by cases r; rfl
theorem fm_frz : ∀ l : List Row, (l.map frz).filterMap Row.blk = []
  | [] => rfl
  | r :: l => by simp [frz_blk, fm_frz l]
theorem Rep.frz (R : Rep β H w) : Rep ⟨β.b, pubG β H w⟩ ⟨H.nb, H.boxes, frzL H.rows⟩ w ∧ Ext β H w ⟨β.b, pubG β H w⟩ ⟨H.nb, H.boxes, frzL H.rows⟩ w := by
  have hup : Gle β ⟨β.b, pubG β H w⟩ := ⟨List.prefix_refl _, pubG_old R⟩
  have hown : owned ⟨β.b, pubG β H w⟩ ⟨H.nb, H.boxes, frzL H.rows⟩ = β.b := by unfold owned; simp only [frzL_eq]; rw [fm_frz, List.append_nil]
  have hnd := List.nodup_append.1 R.nd
  refine ⟨⟨R.len, R.nb, fun i x b hi hb => (R.box i x b hi hb).mono hup (Nat.le_refl _) rfl, fun r hr => ?_, by rw [hown]; exact hnd.1, fun a v hg => ⟨pubG_cell R a v hg, ?_⟩⟩, ⟨hup, Fr.refl _ _, fun b hb => ?_, fun a v hg => ?_⟩⟩
  · rw [frzL_eq] at hr
    obtain ⟨r0, hr0, rfl⟩ := List.mem_map.1 hr
    obtain ⟨ws, h1, h2⟩ := row_pub R hr0
    obtain ⟨ws', g1, g2, g3, g4⟩ := R.row r0 hr0
    cases r0
    exact ⟨ws, DenL.mono hup _ _ h1, h2.sz, h2.len, h2⟩
  · rw [hown]
    intro hm
    replace hg : pubG β H w a = some v := hg
    unfold pubG at hg
    split at hg
    · rename_i hrow
      exact hnd.2.2 _ hm _ hrow rfl
    · exact (R.g a v hg).2 (List.mem_append_left _ hm)
  · rw [hown] at hb; exact .inl (List.mem_append_left _ hb)
  · replace hg : pubG β H w a = some v := hg
    unfold pubG at hg
    split at hg
    · rename_i hrow; exact .inr (.inl (List.mem_append_right _ hrow))
    · exact .inl hg
/-- A contract that only tells a value, with rows of the run's own as arguments. -/
theorem Fc.useP {f : FuncId} {args args' : List SV} {r0 : SV} {K : SV → Hp → Prop} (h : Fc P f args' r0) (hl : puPL H args args') (hk : K r0 ⟨H.nb, H.boxes, frzL H.rows⟩) : Tr P f args H K := by
  refine ⟨fun β w xs R hd => ?_⟩
  obtain ⟨R1, X1⟩ := R.frz
  refine ((h ⟨H.nb, H.boxes, frzL H.rows⟩).run _ w xs R1 (puPL_den R _ _ _ hl hd)).mono ?_
  rintro x w' ⟨r, H', β', h1, h2, h3, h4, h5⟩
  exact ⟨r, H', β', h1, h2, X1.trans h3, by rw [h4, h5]; exact hk⟩
end
end Go.Sy
namespace Go.Sy
open Go
section
variable {P : Program}
/-- A call that was deferred, from a state (its frame's mode is told by u). -/
structure TrD (P : Program) (f : FuncId) (args : List SV) (H : Hp) (Q : Hp → Prop) : Prop where
  run : ∀ β w xs u, Rep β H w → DenL β args xs → CallsDIn (W0 none) 0 P f xs.toArray u w fun e u' w' => u' = u ∧ ∃ x, e = .returned x ∧
    ∃ H' β', Rep β' H' w' ∧ Ext β H w β' H' w' ∧ Q H'
/-- A mark is taken in. -/
theorem mark_taken {b0 : Nat} {β0 β : Gh} {H0 H : Hp} {w0 w : World} {m : Nat} {r : List Deferred} {ds : List SV} (R : Rep β H w) (X : Ext β0 H0 w0 β H w) (hb0 : b0 = w0.heap.size)
    (h0 : b0 ≤ m) (h2 : m ∉ owned β H) (h3 : w.heap[m]? = some (.deferred (some []))) (h4 : markOf m ∉ r) (h5 : DefOk b0 β (owned β H) w ds r) :
    (Instr.takeDeferred m).run P w = .ok [] (w.putObj m (.deferred none)) ∧ Rep β H (w.putObj m (.deferred none)) ∧ Ext β0 H0 w0 β H (w.putObj m (.deferred none)) ∧ DefOk b0 β (owned β H) (w.putObj m (.deferred none)) ds r := by
  have hlt := (Array.getElem?_eq_some_iff.1 h3).1
  have hoth : ∀ k, k ≠ m → (w.putObj m (.deferred none)).heap[k]? = w.heap[k]? := fun k hk => World.putObj_heap_other hk
  have hne : ∀ {b}, b ∈ owned β H → b ≠ m := fun hb e => h2 (e ▸ hb)
  refine ⟨run_takeDeferred h3, ⟨R.len, R.nb, fun i x b hi hb => ?_, fun r hr => ?_, R.nd, fun a v hg => ?_⟩, ⟨X.pre, ⟨X.fr.os, X.fr.tape, X.fr.output, by rw [World.putObj_size]; exact X.fr.size, fun k hk hn => ?_⟩, X.own, X.gn⟩, ?_⟩
  · exact (R.box i x b hi hb).mono (Gle.refl _) (by simp) (hoth b (hne (List.mem_append_left _ (List.mem_of_getElem? hb))))
  · exact (R.row r hr).mono (Gle.refl _) (by simp) fun b hb => hoth b (hne (List.mem_append_right _ (List.mem_filterMap.2 ⟨r, hr, hb⟩)))
  · obtain ⟨g1, g2⟩ := R.g a v hg
    refine ⟨?_, g2⟩
    have : a.block ≠ m := by
      intro e
      unfold World.cell? at g1
      rw [e, h3] at g1
      cases g1
    rw [World.cell?_of_block (w := w) (hoth a.block this)]; exact g1
  · rw [hoth k (by omega)]; exact X.fr.block k hk hn
  · have : ∀ {r : List Deferred} {ds : List SV}, markOf m ∉ r → DefOk b0 β (owned β H) w ds r → DefOk b0 β (owned β H) (w.putObj m (.deferred none)) ds r := by
      intro r
      induction r with
      | nil => exact fun _ k => ⟨k.1, by simpa using k.2⟩
      | cons d r ih =>
        intro ds hm k
        have hm' : markOf m ∉ r := fun h => hm (List.mem_cons_of_mem _ h)
        rcases k with ⟨m2, rfl, k0, k2, k3, k4, k5⟩ | ⟨s, ds', k1, k2, k3⟩
        · have hmm : m2 ≠ m := fun e => hm (by rw [e]; exact List.mem_cons_self ..)
          exact .inl ⟨m2, rfl, k0, k2, (hoth m2 hmm).trans k3, k4, ih hm' k5⟩
        · exact .inr ⟨s, ds', k1, k2, ih hm' k3⟩
    exact this h4 h5
/-- What is asked of the deferred calls, the last one first. -/
def leave1 (P : Program) (s : SV) (k : Hp → Prop) (H : Hp) : Prop :=
  match s with
  | .clo (.func g) a cs => lf (a ++ cs) fun l => (∃ fn, P.funcs[g]? = some fn ∧ okFn fn 0 = true) ∧ TrD P g l H k
  | _ => False
noncomputable def leaveK (P : Program) (ds : List SV) : (Hp → Prop) → Hp → Prop :=
  List.rec (motive := fun _ => (Hp → Prop) → Hp → Prop) (fun k H => k H) (fun s _ ih k H => leave1 P s (fun H' => ih k H') H) ds
theorem leaveK_cons {s : SV} {ds : List SV} {k : Hp → Prop} {H : Hp} (h : leaveK P (s :: ds) k H) :
    ∃ g a cs, s = .clo (.func g) a cs ∧ (∃ fn, P.funcs[g]? = some fn ∧ okFn fn 0 = true) ∧ TrD P g (a ++ cs) H fun H' => leaveK P ds k H' := by
  have h' : leave1 P s (fun H' => leaveK P ds k H') H := h
  clear h
  cases s <;> try exact h'.elim
  rename_i f a cs
  cases f <;> try exact h'.elim
  rename_i g
  have h' : lf (a ++ cs) fun l => (∃ fn, P.funcs[g]? = some fn ∧ okFn fn 0 = true) ∧ TrD P g l H fun H' => leaveK P ds k H' := h'
  rw [lf_eq] at h'
  exact ⟨g, a, cs, rfl, h'⟩
theorem leaves_defs {fn : Func} {b0 : Nat} {E : List (Nat × SV)} {β0 : Gh} {H0 : Hp} {w0 : World} {tmps : Array Value} {Φ : Ending → World → Prop} {k : Hp → Prop} (hb0 : b0 = w0.heap.size)
    (fin : ∀ β H w, Rep β H w → Ext β0 H0 w0 β H w → EnvOk β E tmps → k H → ∃ v, (results fn tmps).run P w = .ok v w ∧ Φ (.returned v) w) :
    ∀ (r : List Deferred) (ds : List SV) (β : Gh) (H : Hp) (w : World), Rep β H w → Ext β0 H0 w0 β H w → EnvOk β E tmps → DefOk b0 β (owned β H) w ds r → leaveK P ds k H → LeavesInM (W0 none) 0 P fn tmps Φ r .returning w
  | [], ds, β, H, w, R, X, he, hd, h => by
    obtain rfl := hd.1
    obtain ⟨v, h1, h2⟩ := fin β H w R X he h
    exact ⟨v, h1, h2⟩
  | d :: r, ds, β, H, w, R, X, he, hd, h => by
    rcases hd with ⟨m, rfl, h0, h2, h3, h4, h5⟩ | ⟨s, ds', rfl, h2, h3⟩
    · obtain ⟨t1, t2, t3, t4⟩ := mark_taken (P := P) R X hb0 h0 h2 h3 h4 h5
      exact ⟨by simp, .inl ⟨m, _, rfl, t1, leaves_defs hb0 fin r ds β H _ t2 t3 he t4 h⟩⟩
    · obtain ⟨g, a, cs, hs, hh⟩ := leaveK_cons h
      clear h
      subst hs
      obtain ⟨⟨fd, hf, hok⟩, h⟩ := hh
      simp only [okFn, Bool.and_eq_true, Bool.not_eq_true'] at hok
      obtain ⟨xs, ys, g1, g2, rfl⟩ := h2
      refine ⟨by simp, .inr ⟨(fun h => by cases h), .func g, ys.toArray, g, (xs ++ ys).toArray, rfl, ?_, fun _ _ => trivial, ?_⟩⟩
      · simp only [invoke]
        rw [show xs.toArray ++ ys.toArray = (xs ++ ys).toArray by simp]
        exact run_callFunc hf hok.1.1 hok.1.2 _ _
      · refine (h.run β w _ .returning R (g1.append g2)).mono ?_
        rintro e u' w' ⟨rfl, x, rfl, H', β', R', X', hk⟩
        exact leaves_defs hb0 fin r ds' β' H' w' R' (X.trans X') (he.mono X'.pre) (h3.ext X') hk
/-- What is asked where a body is left that has deferred calls. -/
noncomputable def retDK (T : List TI) (P : Program) (fn : Func) (Q : SV → Hp → Prop) : Exit → Env → Hp → Prop := fun e E' H' => match e with
  | .normal => leaveK P E'.ds (fun H2 => resL T fn.results.toList ⟨E'.ts, []⟩ H2 fun l => Q (pack l) H2) H'
  | .ret => leaveK P E'.ds (fun H2 => resL T fn.results.toList ⟨E'.ts, []⟩ H2 fun l => Q (pack l) H2) H'
  | _ => False
theorem Tr.of_cdD {T : List TI} (hT : TabOk T P) {f : FuncId} {fn : Func} {args : List SV} {H : Hp} {Q : SV → Hp → Prop} (hf : P.funcs[f]? = some fn) (hok : okFn fn args.length = true)
    (h : Cd P fn.ntmps none (bodyOf fn) ⟨argsTs 0 args, []⟩ H (retDK T P fn Q)) : Tr P f args H Q := by
  simp only [okFn, Bool.and_eq_true, Bool.not_eq_true'] at hok
  obtain ⟨⟨h1, h2⟩, h3⟩ := hok
  obtain ⟨c, hc⟩ := Option.isSome_iff_exists.1 h1
  have hbc : bodyOf fn = c := by simp [bodyOf, hc]
  rw [hbc] at h
  refine ⟨fun β w xs R hd => .inl ⟨⟨fn, hf, h1, h2⟩, ?_⟩⟩
  have hlen : args.length ≤ fn.ntmps := Nat.le_of_ble_eq_true h3
  have hxl := hd.length
  rw [← callsIn_W0 (ro := none) (n := 0)]
  refine callsIn_of_wp_marks hf hc trivial ?_
  have RA : RepA fn.ntmps w.heap.size β ⟨argsTs 0 args, []⟩ H { tmps := xs.toArray ++ Array.replicate (fn.ntmps - xs.toArray.size) undef, defers := [] } w := by
    refine ⟨R, by simp; omega, ⟨rfl, Nat.le_refl _⟩, fun t s ht => ?_⟩
    obtain ⟨_, h1⟩ := argsTs_get ht
    obtain ⟨y, hy, hdy⟩ := hd.get h1
    refine ⟨y, ?_, hdy⟩
    rw [Array.getElem?_append_left]
    · simpa using hy
    · have := (List.getElem?_eq_some_iff.1 hy).1; simpa using this
  refine wpIn_mono (h.run _ β _ w RA) ?_
  rintro e a' w' ⟨β', E', H', R', X', hk⟩
  have fin : leaveK P E'.ds (fun H2 => resL T fn.results.toList ⟨E'.ts, []⟩ H2 fun l => Q (pack l) H2) H' →
      LeavesInM (W0 none) 0 P fn a'.tmps (fun e w' => ∃ x, e = .returned x ∧ ∃ r H' β', Den β' r x ∧ Rep β' H' w' ∧ Ext β H w β' H' w' ∧ Q r H') a'.defers .returning w' := by
    intro h
    refine leaves_defs (β0 := β) (H0 := H) (w0 := w) (E := E'.ts) rfl (fun β2 H2 w2 R2 X2 he2 hk2 => ?_) a'.defers E'.ds β' H' w' R'.rep X' R'.env R'.defs h
    have RA2 : RepA fn.ntmps w2.heap.size β2 ⟨E'.ts, []⟩ H2 { a' with defers := [] } w2 := ⟨R2, R'.size, ⟨rfl, Nat.le_refl _⟩, he2⟩
    obtain ⟨v, r, g1, g2, g3⟩ := res_fin (E := ⟨E'.ts, []⟩) hT RA2 (Q := fun r => Q r H2) hk2
    exact ⟨v, g1, v, rfl, r, H2, β2, g2, R2, X2, g3⟩
  cases e with
  | normal => exact fin hk
  | ret => exact fin hk
  | _ => exact hk.elim
theorem Tr.of_bodyD {T : List TI} (hT : TabOk T P) {f : FuncId} {fn : Func} {args : List SV} {H : Hp} {Q : SV → Hp → Prop} (hf : P.funcs[f]? = some fn) (hok : okFn fn args.length = true)
    (h : vcC T P fn.ntmps none (bodyOf fn) ⟨argsTs 0 args, []⟩ H (retDK T P fn Q)) : Tr P f args H Q := Tr.of_cdD hT hf hok (Cd.of_vc hT _ h)

/-- Marks alone are taken in, step by step. -/
theorem marks_steps {b0 : Nat} {β0 : Gh} {H0 : Hp} {w0 : World} (hb0 : b0 = w0.heap.size) : ∀ (r : List Deferred) (β : Gh) (H : Hp) (w : World) (fr : Frame) (cs : List Frame), Rep β H w → Ext β0 H0 w0 β H w → DefOk b0 β (owned β H) w [] r → fr.mode = .returning → fr.defers = r →
    ∃ w', Rep β H w' ∧ Ext β0 H0 w0 β H w' ∧ StepsIn (Machine.fenced P (W0 none)) P (lone fr cs w) (lone { fr with defers := [] } cs w')
  | [], β, H, w, fr, cs, R, X, hd, hm, hr => by
    refine ⟨w, R, X, ?_⟩
    have : ({ fr with defers := [] } : Frame) = fr := by rw [← hr]
    rw [this]
    exact StepsIn.refl _
  | d :: r, β, H, w, fr, cs, R, X, hd, hm, hr => by
    rcases hd with ⟨m, rfl, h0, h2, h3, h4, h5⟩ | ⟨s, ds', h1, _⟩
    · obtain ⟨t1, t2, t3, t4⟩ := mark_taken (P := P) R X hb0 h0 h2 h3 h4 h5
      have h1 := step_collected (cs := cs) (by rw [hm]; simp) hr rfl t1
      have i1 : (lone fr cs w).fenced P (W0 none) := fenced_out (n := 0) trivial (W0_room _ _) (by rw [hm]; simp) hr (fun g hg => trivial)
      obtain ⟨w', R', X', S⟩ := marks_steps hb0 r β H _ { fr with defers := [] ++ r } cs t2 t3 t4 hm rfl
      exact ⟨w', R', X', .head i1 h1 S⟩
    · cases h1
/-- A function that defers nothing, entered as a deferred call. -/
theorem TrD.of_cd {T : List TI} (hT : TabOk T P) {f : FuncId} {fn : Func} {args : List SV} {H : Hp} {Q : Hp → Prop} (hf : P.funcs[f]? = some fn) (hok : okFn fn args.length = true)
    (h : Cd P fn.ntmps none (bodyOf fn) ⟨argsTs 0 args, []⟩ H (retK T fn fun _ H' => Q H')) : TrD P f args H Q := by
  simp only [okFn, Bool.and_eq_true, Bool.not_eq_true'] at hok
  obtain ⟨⟨h1, h2⟩, h3⟩ := hok
  obtain ⟨c, hc⟩ := Option.isSome_iff_exists.1 h1
  have hbc : bodyOf fn = c := by simp [bodyOf, hc]
  rw [hbc] at h
  refine ⟨fun β w xs u R hd => ⟨trivial, fun c₀ cs hu hr => ?_⟩⟩
  have hlen : args.length ≤ fn.ntmps := Nat.le_of_ble_eq_true h3
  have hxl := hd.length
  have RA : RepA fn.ntmps w.heap.size β ⟨argsTs 0 args, []⟩ H { tmps := xs.toArray ++ Array.replicate (fn.ntmps - xs.toArray.size) undef, defers := [] } w := by
    refine ⟨R, by simp; omega, ⟨rfl, Nat.le_refl _⟩, fun t s ht => ?_⟩
    obtain ⟨_, h1⟩ := argsTs_get ht
    obtain ⟨y, hy, hdy⟩ := hd.get h1
    refine ⟨y, ?_, hdy⟩
    rw [Array.getElem?_append_left]
    · simpa using hy
    · have := (List.getElem?_eq_some_iff.1 hy).1; simpa using this
  let b : Frame := { (default : Frame) with fn := f, kind := .deferred, roundOf := none }
  have henter : Frame.enter P f xs.toArray .deferred =
      b.atR { tmps := xs.toArray ++ Array.replicate (fn.ntmps - xs.toArray.size) undef, defers := [] } [.code c] := by
    simp [Frame.enter, Frame.atR, hf, hc, b]
  have hcc : ({ c₀ with mode := u } : Frame) = c₀ := by subst hu; rfl
  obtain ⟨e, a', w', ⟨β', E', H', R', X', hk⟩, harr⟩ := (h.run _ β _ w RA) b [] (c₀ :: cs) rfl trivial hr
  rw [← henter] at harr
  have fin : ∀ todo, (match E'.ds with | [] => resL T fn.results.toList E' H' fun l => Q H' | _ :: _ => False) → StepsIn (Machine.fenced P (W0 none)) P (lone (Frame.enter P f xs.toArray .deferred) (c₀ :: cs) w) (lone { b.atR a' todo with mode := .returning } (c₀ :: cs) w') →
      ∃ e u' w' fr, (u' = u ∧ ∃ x, e = .returned x ∧ ∃ H' β', Rep β' H' w' ∧ Ext β H w β' H' w' ∧ Q H') ∧
        ComesIn (Machine.fenced P (W0 none)) P (lone (Frame.enter P f xs.toArray .deferred) (c₀ :: cs) w) (lone fr ({ c₀ with mode := u' } :: cs) w') e ∧ fr.kind = .deferred ∧ fr.fn = f ∧ fr.going P w' e := by
    intro todo h hs
    split at h
    case h_2 => exact h.elim
    rename_i hds
    have hdefs := R'.defs
    rw [hds] at hdefs
    obtain ⟨w2, R2, X2, S⟩ := marks_steps (P := P) (β0 := β) (H0 := H) (w0 := w) rfl a'.defers β' H' w' { b.atR a' todo with mode := .returning } (c₀ :: cs) R'.rep X' hdefs rfl rfl
    have RA2 : RepA fn.ntmps w2.heap.size β' ⟨E'.ts, []⟩ H' { a' with defers := [] } w2 := ⟨R2, R'.size, ⟨rfl, Nat.le_refl _⟩, R'.env⟩
    obtain ⟨v, r, g1, g2, g3⟩ := res_fin (E := ⟨E'.ts, []⟩) hT RA2 (Q := fun r => Q H') (by
      have : E' = ⟨E'.ts, []⟩ := by cases E'; simp only at hds; rw [hds]
      rw [← this]; exact h)
    exact ⟨.returned v, u, w2, _, ⟨rfl, v, rfl, H', β', R2, X2, g3⟩, (by rw [hcc]; exact StepsIn.trans hs S), rfl, rfl, rfl, rfl, fn, hf, g1⟩
  cases e with
  | normal => exact fin [] hk (StepsIn.trans harr (.one (fenced_calm (fr := b.atR a' []) trivial hr rfl) (stepR_end rfl)))
  | ret =>
    obtain ⟨todo, hs⟩ := harr.1 rfl
    exact fin todo hk hs
  | _ => exact hk.elim
theorem TrD.of_body {T : List TI} (hT : TabOk T P) {f : FuncId} {fn : Func} {args : List SV} {H : Hp} {Q : Hp → Prop} (hf : P.funcs[f]? = some fn) (hok : okFn fn args.length = true)
    (h : vcC T P fn.ntmps none (bodyOf fn) ⟨argsTs 0 args, []⟩ H (retK T fn fun _ H' => Q H')) : TrD P f args H Q := TrD.of_cd hT hf hok (Cd.of_vc hT _ h)
end
end Go.Sy
namespace Go.Sy
open Go
section
variable {P : Program} {β : Gh} {H : Hp} {w : World}
/-- A cell of a box, read. -/
theorem Rep.cellAt (R : Rep β H w) {i o : Nat} {cs : List SV} {x : Value} (hi : nth H.boxes i = some (.c cs)) (ho : nth cs o = some (.v x)) (hc : x.oneCell' = true) :
    ∃ b xs t, β.b[i]? = some b ∧ DenL β cs xs ∧ w.heap[b]? = some (Obj.cells xs.toArray t (0, 0)) ∧ xs[o]? = some x ∧ w.cell? ⟨b, o, none⟩ = some x ∧ w.frozen? ⟨b, o, none⟩ = false := by
  rw [nth_eq] at hi ho
  obtain ⟨b, hb, hk⟩ := R.box_at hi
  obtain ⟨xs, t, h1, h2⟩ := hk
  obtain ⟨y, hy, hd⟩ := h1.get ho
  simp only [Den] at hd
  subst hd
  refine ⟨b, xs, t, hb, h1, h2, hy, ?_, ?_⟩
  · simp [World.cell?, h2, hy]
  · simp [World.frozen?, h2]
theorem Rep.cellSet (R : Rep β H w) {i o b : Nat} {cs : List SV} {xs : List Value} {t : TypeId} (hi : nth H.boxes i = some (.c cs)) (hb : β.b[i]? = some b) (hd : DenL β cs xs) (hh : w.heap[b]? = some (Obj.cells xs.toArray t (0, 0))) (y : Value) :
    Rep β { H with boxes := H.boxes.set i (.c (cs.set o (.v y))) } (w.setCell ⟨b, o, none⟩ y) ∧ Ext β H w β { H with boxes := H.boxes.set i (.c (cs.set o (.v y))) } (w.setCell ⟨b, o, none⟩ y) := by
  rw [nth_eq] at hi
  have hlt := (Array.getElem?_eq_some_iff.1 hh).1
  refine R.setBx hi hb ⟨rfl, rfl, rfl, by simp⟩ (fun k hk => heap_setCell_other w _ k y hk) ⟨xs.set o y, t, DenL.set o hd rfl, ?_⟩
  rw [heap_setCell_same w b o xs.toArray t y hh]
  simp
structure Ext0 (P : Program) (f : FuncId) (e : Array Value → Sem Value) : Prop where
  ex : ∃ fn, P.funcs[f]? = some fn ∧ (fn.name == "runtime.NumGoroutine") = false ∧ fn.body.isNone = true ∧ Extern.findNext fn = none ∧ Extern.find fn = some e
theorem Tr.atLd {f : FuncId} {k : IntKind} (h : Ext0 P f (Extern.Atomic.loadT (.int k))) {i o : Nat} {cs : List SV} {n : Int} (hi : nth H.boxes i = some (.c cs)) (ho : nth cs o = some (.v (.int k n))) {K : SV → Hp → Prop} (hk : K (.v (.int k n)) H) : Tr P f [.loc i o] H K := by
  obtain ⟨fn, h1, h2, h3, h4, h5⟩ := h.ex
  refine ⟨fun β w xs R hd => .inr ?_⟩
  obtain ⟨y, zs, ⟨b, hb, rfl⟩, hz, rfl⟩ := hd
  simp only [DenL] at hz
  subst hz
  obtain ⟨b', xs, t, hb', g1, g2, g3, g4, g5⟩ := R.cellAt hi ho rfl
  rw [hb] at hb'; injection hb' with hb'; subst hb'
  exact ⟨_, _, run_call_load h1 h2 h3 h4 k h5 g4, .v (.int k n), H, β, rfl, R, Ext.refl _ _ _, hk⟩
theorem Tr.atSt {f : FuncId} {k k' : IntKind} (h : Ext0 P f Extern.Atomic.storeT) {i o : Nat} {cs : List SV} {n y : Int} (hi : nth H.boxes i = some (.c cs)) (ho : nth cs o = some (.v (.int k' n))) {K : SV → Hp → Prop}
    (hk : K (.tup []) { H with boxes := H.boxes.set i (.c (cs.set o (.v (.int k y)))) }) : Tr P f [.loc i o, .v (.int k y)] H K := by
  obtain ⟨fn, h1, h2, h3, h4, h5⟩ := h.ex
  refine ⟨fun β w xs R hd => .inr ?_⟩
  obtain ⟨y1, zs, ⟨b, hb, rfl⟩, ⟨y2, zs2, hy2, hz, rfl⟩, rfl⟩ := hd
  simp only [DenL, Den] at hz hy2
  subst hz; subst hy2
  obtain ⟨b', xs, t, hb', g1, g2, g3, g4, g5⟩ := R.cellAt hi ho rfl
  rw [hb] at hb'; injection hb' with hb'; subst hb'
  obtain ⟨R', X'⟩ := R.cellSet (o := o) hi hb g1 g2 (.int k y)
  exact ⟨_, _, run_call_store h1 h2 h3 h4 h5 g4 g5, .tup [], _, β, ⟨[], rfl, rfl⟩, R', X', hk⟩
theorem Tr.atCas {f : FuncId} {k : IntKind} (h : Ext0 P f (Extern.Atomic.casT (.int k))) {i o : Nat} {cs : List SV} {x y : Int} (hi : nth H.boxes i = some (.c cs)) (ho : nth cs o = some (.v (.int k x))) {K : SV → Hp → Prop}
    (hk : K (.v (.bool true)) { H with boxes := H.boxes.set i (.c (cs.set o (.v (.int k y)))) }) : Tr P f [.loc i o, .v (.int k x), .v (.int k y)] H K := by
  obtain ⟨fn, h1, h2, h3, h4, h5⟩ := h.ex
  refine ⟨fun β w xs R hd => .inr ?_⟩
  obtain ⟨y1, zs, ⟨b, hb, rfl⟩, ⟨y2, zs2, hy2, ⟨y3, zs3, hy3, hz, rfl⟩, rfl⟩, rfl⟩ := hd
  simp only [DenL, Den] at hz hy2 hy3
  subst hz; subst hy2; subst hy3
  obtain ⟨b', xs, t, hb', g1, g2, g3, g4, g5⟩ := R.cellAt hi ho rfl
  rw [hb] at hb'; injection hb' with hb'; subst hb'
  obtain ⟨R', X'⟩ := R.cellSet (o := o) hi hb g1 g2 (.int k y)
  exact ⟨_, _, run_call_cas_hit h1 h2 h3 h4 k h5 g4 g5, .v (.bool true), _, β, rfl, R', X', hk⟩
theorem Tr.atAdd {f : FuncId} {k : IntKind} (h : Ext0 P f (Extern.Atomic.update (Op.intArith .add) k true)) {i o : Nat} {cs : List SV} {x y : Int} (hi : nth H.boxes i = some (.c cs)) (ho : nth cs o = some (.v (.int k x))) {K : SV → Hp → Prop}
    (hk : K (.v (.int k (k.wrap (x + y)))) { H with boxes := H.boxes.set i (.c (cs.set o (.v (.int k (k.wrap (x + y)))))) }) : Tr P f [.loc i o, .v (.int k y)] H K := by
  obtain ⟨fn, h1, h2, h3, h4, h5⟩ := h.ex
  refine ⟨fun β w xs R hd => .inr ?_⟩
  obtain ⟨y1, zs, ⟨b, hb, rfl⟩, ⟨y2, zs2, hy2, hz, rfl⟩, rfl⟩ := hd
  simp only [DenL, Den] at hz hy2
  subst hz; subst hy2
  obtain ⟨b', xs, t, hb', g1, g2, g3, g4, g5⟩ := R.cellAt hi ho rfl
  rw [hb] at hb'; injection hb' with hb'; subst hb'
  obtain ⟨R', X'⟩ := R.cellSet (o := o) hi hb g1 g2 (.int k (k.wrap (x + y)))
  exact ⟨_, _, run_call_add h1 h2 h3 h4 k h5 (s := k.wrap (x + y)) g4 g5 (by simp [Op.intArith]), .v (.int k (k.wrap (x + y))), _, β, rfl, R', X', hk⟩
theorem Tr.mark0 {f : FuncId} {m : Mark} (h : Ext0 P f (fun _ => do mark m; pure Extern.Race.none_)) {K : SV → Hp → Prop} (hk : K (.tup []) H) : Tr P f [] H K := by
  obtain ⟨fn, h1, h2, h3, h4, h5⟩ := h.ex
  refine ⟨fun β w xs R hd => .inr ?_⟩
  simp only [DenL] at hd
  subst hd
  exact ⟨_, _, run_call_mark0 h1 h2 h3 h4 m h5 w, .tup [], H, β, ⟨[], rfl, rfl⟩, R, Ext.refl _ _ _, hk⟩
theorem Tr.marked {f : FuncId} {m : Addr → Mark} (h : Ext0 P f (Extern.Race.marked m)) {i o : Nat} {K : SV → Hp → Prop} (hk : K (.tup []) H) : Tr P f [.loc i o] H K := by
  obtain ⟨fn, h1, h2, h3, h4, h5⟩ := h.ex
  refine ⟨fun β w xs R hd => .inr ?_⟩
  obtain ⟨y, zs, ⟨b, hb, rfl⟩, hz, rfl⟩ := hd
  simp only [DenL] at hz
  subst hz
  exact ⟨_, _, run_call_marked h1 h2 h3 h4 m h5 _ w, .tup [], H, β, ⟨[], rfl, rfl⟩, R, Ext.refl _ _ _, hk⟩
end
end Go.Sy

