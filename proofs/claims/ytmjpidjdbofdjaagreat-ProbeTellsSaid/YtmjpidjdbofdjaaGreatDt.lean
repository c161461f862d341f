import Derived.Test.YtmjpidjdbofdjaaGreatNm
import Derived.Test.YtmjpidjdbofdjaaGreatYZ
/- The data of the program, plain; and as symbolic values. -/
set_option linter.unusedVariables false
set_option linter.unusedSimpArgs false
namespace Go.Proofs.YtmjpidjdbofdjaaGreat
open Go Go.Sy

/-- A loop by an invariant that is a state told by an index, and a property of the index. -/
theorem loopP {P : Program} {T : List TI} (hT : TabOk T P) {n : Nat} {ro : Option Nat} {c : Code} {E : Env} {H : Hp} {K : Exit → Env → Hp → Prop} {ι : Type} (p : ι → Prop) (I : ι → Env) (J : ι → Hp) (μ : ι → Nat) (i0 : ι) (hp : p i0)
    (h0 : Back (I i0) (J i0) E H) (hnb : ∀ i, (J i).nb = H.nb)
    (step : ∀ i, p i → vcC T P n ro c (I i) (J i) fun e E' H' => match e with
      | .normal => ∃ i', p i' ∧ μ i' < μ i ∧ Back (I i') (J i') E' H'
      | e => K e E' H') : Cd P n ro (.loop c) E H K :=
  Cd.loop (fun i : {i : ι // p i} => I i.1) (fun i => J i.1) (fun i => μ i.1) ⟨i0, hp⟩ h0 (fun i => hnb i.1) fun ⟨i, hi⟩ => (Cd.of_vc hT c (step i hi)).mono fun e E' H' h => by
    cases e with
    | normal => obtain ⟨i', h1, h2, h3⟩ := h; exact ⟨⟨i', h1⟩, h2, h3⟩
    | _ => exact h
/-- Likewise, by two indices. -/
theorem loopP2 {P : Program} {T : List TI} (hT : TabOk T P) {n : Nat} {ro : Option Nat} {c : Code} {E : Env} {H : Hp} {K : Exit → Env → Hp → Prop} {ι κ : Type} (p : ι → κ → Prop) (I : ι → κ → Env) (J : ι → κ → Hp) (μ : ι → κ → Nat) (i0 : ι) (j0 : κ) (hp : p i0 j0)
    (h0 : Back (I i0 j0) (J i0 j0) E H) (hnb : ∀ i j, (J i j).nb = H.nb)
    (step : ∀ i j, p i j → vcC T P n ro c (I i j) (J i j) fun e E' H' => match e with
      | .normal => ∃ i' j', p i' j' ∧ μ i' j' < μ i j ∧ Back (I i' j') (J i' j') E' H'
      | e => K e E' H') : Cd P n ro (.loop c) E H K :=
  Cd.loop (fun i : {i : ι × κ // p i.1 i.2} => I i.1.1 i.1.2) (fun i => J i.1.1 i.1.2) (fun i => μ i.1.1 i.1.2) ⟨(i0, j0), hp⟩ h0 (fun i => hnb i.1.1 i.1.2) fun ⟨⟨i, j⟩, hi⟩ => (Cd.of_vc hT c (step i j hi)).mono fun e E' H' h => by
    cases e with
    | normal => obtain ⟨i', j', h1, h2, h3⟩ := h; exact ⟨⟨(i', j'), h1⟩, h2, h3⟩
    | _ => exact h
structure Val where
  kind : Int
  time : Int
  node : Int
  dead : Bool
  text : ByteArray
  plus : List Int
  minus : List Int
  flags : Int
  deriving DecidableEq
structure Ent where
  key : ByteArray
  val : Val
  deriving DecidableEq
structure Ar where
  cap : Int
  slots : List Ent
  index : List Int
  deriving DecidableEq
def iv (n : Int) : SV := .v (.int .i64 n)
def sb (b : Bool) : SV := .v (.bool b)
def ss (s : ByteArray) : SV := .v (.string s)
def ints (l : List Int) : SV := .lst false 1 (l.map iv)
def Val.cs (v : Val) : List SV := [iv v.kind, iv v.time, iv v.node, sb v.dead, ss v.text, ints v.plus, ints v.minus, .v (.int .u64 v.flags)]
def Val.sv (v : Val) : SV := .agg v.cs
def Ent.cs (e : Ent) : List SV := ss e.key :: e.val.cs
def Ent.sv (e : Ent) : SV := .agg e.cs
def ents (l : List Ent) : SV := .lst false 9 (l.map Ent.sv)
def Ar.sv (a : Ar) : SV := .agg [iv a.cap, ents a.slots, ints a.index]
theorem blwL_map {α : Type} {m : Nat} {f : α → SV} (h : ∀ x, blw m (f x) = true) : ∀ l : List α, blwL m (l.map f) = true
  | [] => rfl
  | x :: r => by rw [List.map_cons, blwL, h x]; exact blwL_map h r
theorem blw_iv (m : Nat) (n : Int) : blw m (iv n) = true := rfl
theorem blw_ints (m : Nat) (l : List Int) : blw m (ints l) = true := by rw [ints, blw]; exact blwL_map (blw_iv m) l
theorem blw_val (m : Nat) (v : Val) : blw m v.sv = true := by simp [Val.sv, Val.cs, blw, blwL, blw_iv, blw_ints, sb, ss]
theorem blw_ent (m : Nat) (e : Ent) : blw m e.sv = true := by simp [Ent.sv, Ent.cs, Val.cs, blw, blwL, blw_iv, blw_ints, sb, ss]
theorem blw_ents (m : Nat) (l : List Ent) : blw m (ents l) = true := by rw [ents, blw]; exact blwL_map (blw_ent m) l
theorem blw_ar (m : Nat) (a : Ar) : blw m a.sv = true := by simp [Ar.sv, blw, blwL, blw_iv, blw_ints, blw_ents]
theorem blwL_one {m : Nat} {s : SV} (h : blw m s = true) : blwL m [s] = true := by rw [blwL, h]; rfl
theorem blwL_cons {m : Nat} {s : SV} {l : List SV} (h : blw m s = true) (k : blwL m l = true) : blwL m (s :: l) = true := by rw [blwL, h]; exact k
/-- The bounds of an int. -/
def I64 (n : Int) : Prop := -9223372036854775808 ≤ n ∧ n ≤ 9223372036854775807
theorem wrap_i64 {n : Int} (h1 : -9223372036854775808 ≤ n) (h2 : n ≤ 9223372036854775807) : IntKind.wrap .i64 n = n := by
  rw [IntKind.wrap_i64]; omega
theorem ivW {n m : Int} (h : n = m) (h1 : -9223372036854775808 ≤ m) (h2 : m ≤ 9223372036854775807) : SV.v (.int .i64 (IntKind.wrap .i64 n)) = iv m := by subst h; rw [wrap_i64 h1 h2]; rfl
theorem mulG {a sz : Nat} {k : Nat → Nat → Prop} (h : k a 0) : ∃ m f, a * sz = m * sz + f ∧ k m f := ⟨a, 0, rfl, h⟩
theorem rowEq {A : Option Addr} {n c e sz : Nat} {es es' : List SV} {fro : Bool} (h : es = es') : (⟨A, n, c, e, sz, es, fro⟩ : Row) = ⟨A, n, c, e, sz, es', fro⟩ := by rw [h]
theorem nth_map {α β : Type} {f : α → β} {l : List α} {i : Nat} {x : α} (h : l[i]? = some x) : nth (l.map f) i = some (f x) := by
  rw [nth_eq, List.getElem?_map, h]; rfl
theorem ndX {β : Type} {l : List β} {i : Nat} {x : β} {k : β → Prop} (h : l[i]? = some x) (hk : k x) : nd (nth l i) k := by rw [nth_eq, h]; exact hk
/-- An element of a list is taken. -/
theorem ndG {α β : Type} {f : α → β} {l : List α} {i : Nat} {x : α} {k : β → Prop} (h : l[i]? = some x) (hk : k (f x)) : nd (nth (l.map f) i) k := by rw [nth_map h]; exact hk
theorem blt_t {m n : Nat} (h : m < n) : Nat.blt m n = true := by rw [Nat.blt_eq]; exact h
theorem bltG {m n : Nat} {X Y : Prop} (h : m < n) (hx : X) : (match Nat.blt m n with | true => X | false => Y) := by rw [blt_t h]; exact hx
/-- A test: both ways. -/
theorem dsp {p : Prop} [Decidable p] {X Y : Prop} (h1 : p → X) (h2 : ¬ p → Y) : (match decide p with | true => X | false => Y) := by
  by_cases h : p
  · rw [decide_eq_true h]; exact h1 h
  · rw [decide_eq_false h]; exact h2 h
theorem dsT {p : Prop} [Decidable p] {X Y : Prop} (h : p) (hx : X) : (match decide p with | true => X | false => Y) := by rw [decide_eq_true h]; exact hx
theorem dsF {p : Prop} [Decidable p] {X Y : Prop} (h : ¬ p) (hx : Y) : (match decide p with | true => X | false => Y) := by rw [decide_eq_false h]; exact hx
theorem nsp {p : Prop} [Decidable p] {X Y : Prop} (h1 : ¬ p → X) (h2 : p → Y) : (match !decide p with | true => X | false => Y) := by
  by_cases h : p
  · rw [decide_eq_true h]; exact h2 h
  · rw [decide_eq_false h]; exact h1 h
theorem nsT {p : Prop} [Decidable p] {X Y : Prop} (h : ¬ p) (hx : X) : (match !decide p with | true => X | false => Y) := by rw [decide_eq_false h]; exact hx
theorem nsF {p : Prop} [Decidable p] {X Y : Prop} (h : p) (hx : Y) : (match !decide p with | true => X | false => Y) := by rw [decide_eq_true h]; exact hx
abbrev mt (b : Bool) (X Y : Prop) : Prop := match b with | true => X | false => Y
theorem bsT {b : Bool} {X Y : Prop} (h : b = true) (hx : X) : mt b X Y := by subst h; exact hx
theorem bsF {b : Bool} {X Y : Prop} (h : b = false) (hx : Y) : mt b X Y := by subst h; exact hx
theorem bsp {b : Bool} {X Y : Prop} (h1 : b = true → X) (h2 : b = false → Y) : (match b with | true => X | false => Y) := by
  cases b
  · exact h2 rfl
  · exact h1 rfl
theorem bnp {b : Bool} {X Y : Prop} (h1 : b = false → X) (h2 : b = true → Y) : (match !b with | true => X | false => Y) := by
  cases b
  · exact h1 rfl
  · exact h2 rfl
theorem sbB {p : Prop} [Decidable p] {b : Bool} (h : b = true ↔ p) : SV.v (.bool b) = sb (decide p) := by
  by_cases hp : p
  · rw [decide_eq_true hp, h.2 hp]; rfl
  · rw [decide_eq_false hp]; cases b; rfl; exact absurd (h.1 rfl) hp
theorem sbT {p : Prop} [Decidable p] (h : p) : SV.v (.bool true) = sb (decide p) := by rw [decide_eq_true h]; rfl
theorem sbF {p : Prop} [Decidable p] (h : ¬ p) : SV.v (.bool false) = sb (decide p) := by rw [decide_eq_false h]; rfl
theorem sbD {p q : Prop} [Decidable p] [Decidable q] (h : q ↔ p) : SV.v (.bool (decide q)) = sb (decide p) := by rw [show decide q = decide p from decide_eq_decide.2 h]; rfl
theorem ivD {p q : Prop} [Decidable p] [Decidable q] {a b : Int} (h : q ↔ p) : SV.v (.int .i64 (if q then a else b)) = iv (if p then a else b) := by
  by_cases hp : p
  · rw [if_pos hp, if_pos (h.2 hp)]; rfl
  · rw [if_neg hp, if_neg (fun hq => hp (h.1 hq))]; rfl
theorem ivT {p : Prop} [Decidable p] {a b : Int} (h : p) : SV.v (.int .i64 a) = iv (if p then a else b) := by rw [if_pos h]; rfl
theorem ivF {p : Prop} [Decidable p] {a b : Int} (h : ¬ p) : SV.v (.int .i64 b) = iv (if p then a else b) := by rw [if_neg h]; rfl
theorem useD {P : Program} {f : FuncId} {args args' : List SV} {r0 : SV} {H : Hp} {K : SV → Hp → Prop} (h : Fc P f args' r0) (hl : ∀ β ys, DenL β args ys → DenL β args' ys) (hk : K r0 H) : Tr P f args H K :=
  ⟨fun β w xs R hd => ((h H).run β w xs R (hl _ _ hd)).mono fun x w' ⟨r, H', β', h1, h2, h3, h4, h5⟩ => ⟨r, H', β', h1, h2, h3, by rw [h4, h5]; exact hk⟩⟩
theorem lst_den {β : Gh} {sz : Nat} {es es' : List SV} {y : Value} (h : lePL es es') (hd : Den β (.lst true sz es) y) : Den β (.lst false sz es') y := by
  obtain ⟨A, n, c, ws, g1, g2, g3⟩ := hd
  exact ⟨A, n, c, ws, lePL_den _ _ _ h g1, ⟨g2.len, g2.le, g2.mx, g2.nil, fun hf => (by cases hf), g2.sz, g2.one, g2.mem⟩, g3⟩
end Go.Proofs.YtmjpidjdbofdjaaGreat

