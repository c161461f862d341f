import Derived.Test.YtmjpidjdbofdjaaGreatYS
import Derived.Test.YtmjpidjdbofdjaaGreatYZ
/- Sy, part T: a region whose order is open, but for its last operation, which waits for all others. Sy, part G: a call whose state has no boxes, met where there are some; what it leaves behind besides is forgotten. -/
set_option linter.unusedVariables false
set_option linter.unusedSimpArgs false
namespace Go.Sy
open Go
section
variable {P : Program} {F : Fence} {n : Nat}
theorem wpIn_monoQ {o : Oper} {a : Act} {w : World} {K : Act → World → Prop} {Q Q' : Exit → Act → World → Prop} (hq : ∀ e a w, Q e a w → Q' e a w) (h : o.wpIn F n P a w K Q) : o.wpIn F n P a w K Q' := by
  unfold Oper.wpIn at *
  refine ⟨h.1, ?_⟩
  have hh := h.2
  generalize (o.semAt F.round a.eval).run P w = r at *
  cases r with
  | ok x w' =>
    cases x <;> simp only [Oper.uponIn] at hh ⊢ <;>
      first
        | exact hh
        | exact ⟨hh.1, CallsIn.mono hh.2 (fun e w'' he => by cases e <;> first | exact he | exact hq _ _ _ he | exact (let ⟨a, w, h⟩ := he; ⟨a, w, hq _ _ _ h⟩))⟩
        | exact ⟨hh.1, RoundIn.mono hh.2 (fun e w'' he => by cases e <;> first | exact he | exact hq _ _ _ he | exact (let ⟨a, w, h⟩ := he; ⟨a, w, hq _ _ _ h⟩))⟩
  | halt x w' => cases x <;> simp only [Oper.uponIn] at hh ⊢ <;> first | exact hh | exact hq _ _ _ hh
theorem wpAnyIn_monoQ {ops : Array Oper} {Q Q' : Exit → Act → World → Prop} (hq : ∀ e a w, Q e a w → Q' e a w) : ∀ (fuel : Nat) (listed : Array Bool) (a : Act) (w : World), wpAnyIn F n P .any ops Q fuel listed a w → wpAnyIn F n P .any ops Q' fuel listed a w
  | 0, listed, a, w, ⟨h1, h2⟩ => ⟨h1, hq _ _ _ h2⟩
  | fuel + 1, listed, a, w, ⟨h1, h2⟩ => by
    refine ⟨fun h => hq _ _ _ (h1 h), fun i hi => ?_⟩
    have hw := h2 i hi
    unfold wpOpIn at hw ⊢
    cases ho : ops[i]? with
    | none => simp only [ho] at hw ⊢; exact wpAnyIn_monoQ hq fuel _ _ _ hw
    | some o =>
      simp only [ho] at hw ⊢
      split
      · rename_i hwn
        rw [if_pos hwn] at hw
        exact wpIn_monoQ hq (Oper.wpIn_mono (fun a w hk => wpAnyIn_monoQ hq fuel _ a w hk) hw)
      · rename_i hwn
        rw [if_neg hwn] at hw
        exact ⟨hw.1, wpAnyIn_monoQ hq fuel _ _ _ hw.2⟩
def lastQ (F : Fence) (n : Nat) (P : Program) (ops : Array Oper) (N : Nat) (Q : Exit → Act → World → Prop) (e : Exit) (a : Act) (w : World) : Prop :=
  match e with
  | .normal => wpOpIn F n P ops Q N (Q .normal) a w
  | e => Q e a w
theorem wpIn_lastQ {ops : Array Oper} {N : Nat} {Q : Exit → Act → World → Prop} {o : Oper} {a : Act} {w : World} {K : Act → World → Prop} (h : o.wpIn F n P a w K (lastQ F n P ops N Q)) : o.wpIn F n P a w K Q := by
  unfold Oper.wpIn at *
  refine ⟨h.1, ?_⟩
  have hh := h.2
  generalize (o.semAt F.round a.eval).run P w = r at *
  cases r with
  | ok x w' =>
    cases x <;> simp only [Oper.uponIn] at hh ⊢ <;>
      first
        | exact hh
        | exact ⟨hh.1, CallsIn.mono hh.2 (fun e w'' he => by cases e <;> exact he)⟩
        | exact ⟨hh.1, RoundIn.mono hh.2 (fun e w'' he => by cases e <;> exact he)⟩
  | halt x w' => cases x <;> simp only [Oper.uponIn] at hh ⊢ <;> exact hh
theorem getD_push {l : Array Bool} {i : Nat} (h : i < l.size) (x y : Bool) : (l.push x).getD i y = l.getD i y := by
  simp [Array.getD, h, Nat.lt_succ_of_lt h, Array.getElem_push_lt h]
theorem any_snoc {ops' : Array Oper} {oL : Oper} {Q : Exit → Act → World → Prop} (hdep : ∀ i, i < ops'.size → ∃ e ∈ oL.after, Region.binds .any e = true ∧ e.on = i) (hdeps : ∀ e ∈ oL.after, Region.binds .any e = true → e.on < ops'.size)
    (hed : edgesOk 0 ops'.toList = true) (hlt : ∀ (j : Nat) (o : Oper), ops'[j]? = some o → (∀ e ∈ o.after, Region.binds .any e = true → e.on < ops'.size) ∧ ∀ g, o.guard = some g → g.1 < ops'.size) :
    ∀ (fuel : Nat) (listed : Array Bool) (a : Act) (w : World), listed.size = ops'.size → wpAnyIn F n P .any ops' (lastQ F n P (ops'.push oL) ops'.size Q) fuel listed a w → wpAnyIn F n P .any (ops'.push oL) Q (fuel + 1) (listed.push false) a w := by
  have hold : ∀ {i : Nat}, i < ops'.size → (ops'.push oL)[i]? = ops'[i]? := fun {i} h => by rw [Array.getElem?_push]; rw [if_neg (by omega)]
  have hnew : (ops'.push oL)[ops'.size]? = some oL := by simp
  -- what is ready
  have rdyN : ∀ (listed : Array Bool), listed.size = ops'.size → (ops'.size ∈ Region.ready .any (ops'.push oL) (listed.push false) ↔ ∀ i, i < ops'.size → listed[i]? = some true) := by
    intro listed hs
    rw [mem_ready]
    constructor
    · rintro ⟨_, o, ho, h⟩ i hi
      rw [hnew] at ho
      injection ho with ho
      subst ho
      obtain ⟨e, he, hb, hei⟩ := hdep i hi
      have := h e he hb
      rw [hei, getD_push (by omega)] at this
      have hil : i < listed.size := by omega
      simp [Array.getD, hil] at this
      rw [Array.getElem?_eq_getElem hil, this]
    · intro h
      refine ⟨by rw [← hs]; simp [Array.getD], oL, hnew, fun e he hb => ?_⟩
      have hlt2 := hdeps e he hb
      rw [getD_push (by omega)]
      have := h e.on hlt2
      have hil : e.on < listed.size := by omega
      rw [Array.getElem?_eq_getElem hil] at this
      simp [Array.getD, hil, Option.some.inj this]
  have rdyI : ∀ (listed : Array Bool) (i : Nat), listed.size = ops'.size → i < ops'.size → (i ∈ Region.ready .any (ops'.push oL) (listed.push false) ↔ i ∈ Region.ready .any ops' listed) := by
    intro listed i hs hi
    rw [mem_ready, mem_ready, hold hi, getD_push (by omega)]
    constructor
    · rintro ⟨h0, o, ho, h⟩
      exact ⟨h0, o, ho, fun e he hb => by have := h e he hb; rw [getD_push (by rw [hs]; exact (hlt i o ho).1 e he hb)] at this; exact this⟩
    · rintro ⟨h0, o, ho, h⟩
      exact ⟨h0, o, ho, fun e he hb => by rw [getD_push (by rw [hs]; exact (hlt i o ho).1 e he hb)]; exact h e he hb⟩
  have rdyLt : ∀ (listed : Array Bool) (i : Nat), i ∈ Region.ready .any (ops'.push oL) (listed.push false) → i < ops'.size ∨ i = ops'.size := by
    intro listed i hi
    rw [mem_ready] at hi
    obtain ⟨_, o, ho, _⟩ := hi
    have := (Array.getElem?_eq_some_iff.1 ho).1
    simp at this
    omega
  have done : ∀ (fuel : Nat) (listed : Array Bool) (a : Act) (w : World), (∀ i, i < ops'.size + 1 → listed[i]? = some true) → Q .normal a w → wpAnyIn F n P .any (ops'.push oL) Q fuel listed a w := by
    intro fuel listed a w h hq
    have hr : Region.ready .any (ops'.push oL) listed = [] := by
      rw [List.eq_nil_iff_forall_not_mem]
      intro i hi
      rw [mem_ready] at hi
      obtain ⟨h0, o, ho, _⟩ := hi
      have := (Array.getElem?_eq_some_iff.1 ho).1
      simp at this
      have h1 := h i (by omega)
      obtain ⟨hil, h2⟩ := Array.getElem?_eq_some_iff.1 h1
      simp [Array.getD, hil, h2] at h0
    cases fuel with
    | zero => exact ⟨hr, hq⟩
    | succ fuel => exact ⟨fun _ => hq, fun i hi => by rw [hr] at hi; cases hi⟩
  have last : ∀ (fuel : Nat) (listed : Array Bool) (a : Act) (w : World), listed.size = ops'.size → (∀ i, i < ops'.size → listed[i]? = some true) → wpOpIn F n P (ops'.push oL) Q ops'.size (Q .normal) a w →
      wpOpIn F n P (ops'.push oL) Q ops'.size (wpAnyIn F n P .any (ops'.push oL) Q fuel ((listed.push false).setIfInBounds ops'.size true)) a w := by
    intro fuel listed a w hs h hw
    refine wpOpIn_mono (fun a w hq => done fuel _ a w (fun i hi => ?_) hq) hw
    by_cases hil : i = ops'.size
    · subst hil; simp [hs]
    · rw [Array.getElem?_setIfInBounds_ne (Ne.symm hil), Array.getElem?_push, if_neg (by omega)]
      exact h i (by omega)
  intro fuel
  induction fuel with
  | zero =>
    intro listed a w hs ⟨hr, hq⟩
    have hall := ready_nil hed hs hr
    refine ⟨fun h0 => ?_, fun i hi => ?_⟩
    · have := (rdyN listed hs).2 hall
      rw [h0] at this; cases this
    · rcases rdyLt listed i hi with h | rfl
      · have := (rdyI listed i hs h).1 hi
        rw [hr] at this; cases this
      · exact last 0 listed a w hs hall hq
  | succ fuel ih =>
    intro listed a w hs ⟨h0, h1⟩
    refine ⟨fun hnil => ?_, fun i hi => ?_⟩
    · exfalso
      cases hr : Region.ready .any ops' listed with
      | nil =>
        have := (rdyN listed hs).2 (ready_nil hed hs hr)
        rw [hnil] at this; cases this
      | cons x xs =>
        have hx : x ∈ Region.ready .any ops' listed := by rw [hr]; exact List.mem_cons_self ..
        have hxl : x < ops'.size := by
          rw [mem_ready] at hx
          obtain ⟨_, o, ho, _⟩ := hx
          exact (Array.getElem?_eq_some_iff.1 ho).1
        have := (rdyI listed x hs hxl).2 hx
        rw [hnil] at this; cases this
    · rcases rdyLt listed i hi with hlt' | rfl
      · have hi' := (rdyI listed i hs hlt').1 hi
        have hw := h1 i hi'
        have e1 : (listed.push false).setIfInBounds i true = (listed.setIfInBounds i true).push false := by
          apply Array.ext'
          simp [List.set_append_left _ _ (show i < listed.toList.length by simp; omega)]
        rw [e1]
        unfold wpOpIn at hw ⊢
        rw [hold hlt']
        cases ho : ops'[i]? with
        | none => rw [ho] at hw; exact ih _ _ _ (by simpa using hs) hw
        | some o =>
          simp only [ho] at hw ⊢
          have hwt : Region.wanted o (yielded (ops'.push oL) a.tmps) = Region.wanted o (yielded ops' a.tmps) := by
            unfold Region.wanted
            cases hg : o.guard with
            | none => rfl
            | some g =>
              simp only
              unfold yielded
              rw [hold ((hlt i o ho).2 g hg)]
          rw [hwt]
          split
          · rename_i hwn
            rw [if_pos hwn] at hw
            exact wpIn_lastQ (Oper.wpIn_mono (fun a w hk => ih _ a w (by simpa using hs) hk) hw)
          · rename_i hwn
            rw [if_neg hwn] at hw
            exact ⟨hw.1, ih _ _ _ (by simpa using hs) hw.2⟩
      · have hall := (rdyN listed hs).1 hi
        have hr : Region.ready .any ops' listed = [] := by
          rw [List.eq_nil_iff_forall_not_mem]
          intro j hj
          rw [mem_ready] at hj
          obtain ⟨g0, o, ho, _⟩ := hj
          have h2 := hall j (Array.getElem?_eq_some_iff.1 ho).1
          obtain ⟨hil, h3⟩ := Array.getElem?_eq_some_iff.1 h2
          simp [Array.getD, hil, h3] at g0
        exact last (fuel + 1) listed a w hs hall (h0 hr)
end
/-! ### As a rule of code -/
def splitL : List Oper → Option (List Oper × Oper)
  | [] => none
  | [o] => some ([], o)
  | o :: r => match splitL r with
    | some (l, p) => some (o :: l, p)
    | none => none
theorem splitL_eq : ∀ {l l' : List Oper} {o : Oper}, splitL l = some (l', o) → l = l' ++ [o]
  | [], _, _, h => by cases h
  | [x], _, _, h => by simp [splitL] at h; obtain ⟨rfl, rfl⟩ := h; rfl
  | x :: y :: r, l', o, h => by
    simp only [splitL] at h
    split at h
    · rename_i l p hl
      injection h with h
      injection h with h1 h2
      subst h1; subst h2
      have := splitL_eq (l := y :: r) hl
      rw [this]; rfl
    · cases h
/-- All places below a number are waited for. -/
def waits (l : List Edge) : Nat → Bool
  | 0 => true
  | i + 1 => match isIn i (l.map (·.on)) with | true => waits l i | false => false
theorem waits_eq {l : List Edge} : ∀ {N : Nat}, waits l N = true → ∀ i, i < N → ∃ e ∈ l, e.on = i
  | 0, _, i, h => by omega
  | N + 1, h, i, hi => by
    simp only [waits] at h
    split at h
    · rename_i hin
      by_cases hiN : i = N
      · subst hiN; exact on_of hin
      · exact waits_eq h i (by omega)
    · cases h
def guardsOk (N : Nat) : List Oper → Bool
  | [] => true
  | o :: r => match o.guard with
    | none => guardsOk N r
    | some (j, _) => match Nat.blt j N with | true => guardsOk N r | false => false
theorem guardsOk_eq {N : Nat} : ∀ {l : List Oper}, guardsOk N l = true → ∀ o ∈ l, ∀ g, o.guard = some g → g.1 < N
  | [], _, o, ho => by cases ho
  | x :: r, h, o, ho => by
    intro g hg
    simp only [guardsOk] at h
    rcases List.mem_cons.1 ho with rfl | ho
    · obtain ⟨j, b⟩ := g
      simp only [hg] at h
      split at h
      · rename_i hb; rw [Nat.blt_eq] at hb; exact hb
      · cases h
    · split at h
      · exact guardsOk_eq h o ho g hg
      · split at h
        · exact guardsOk_eq h o ho g hg
        · cases h
def parOkS (n : Nat) (ops : List Oper) (es : List Nat) : Bool :=
  match splitL ops with
  | some (l, o) => match parOkT n l es, waits (bnds o.after.toList) l.length, edgeOk l.length (bnds o.after.toList) with
    | true, true, true => guardsOk l.length l
    | _, _, _ => false
  | none => false
section
variable {P : Program} {T : List TI}
structure CdA (P : Program) (n : Nat) (ro : Option Nat) (ops : Array Oper) (E : Env) (H : Hp) (K : Exit → Env → Hp → Prop) : Prop where
  run : ∀ b0 β a w, RepA n b0 β E H a w → wpAnyIn (W0 ro) 0 P .any ops (fun e a' w' => ∃ β' E' H', RepA n b0 β' E' H' a' w' ∧ Ext β H w β' H' w' ∧ K e E' H') ops.size (Array.replicate ops.size false) a { w with drawn := w.drawn + 1 }
theorem CdA.parT (hT : TabOk T P) (es : List Nat) {n : Nat} {ro : Option Nat} {ops : Array Oper} {E : Env} {H : Hp} {K : Exit → Env → Hp → Prop} (hok : parOkT n ops.toList es = true)
    (h : lf (eraseE (dsts ops.toList) E.ts) fun Em => vcT T P ops.toList es Em E.ds (fun σ H' => lf (fullO ops.toList σ Em) fun ts => K .normal ⟨ts, E.ds⟩ H') (es.length + 1) (nones ops.toList) H) :
    CdA P n ro ops E H K := by
  unfold parOkT at hok
  split at hok
  case h_2 => cases hok
  rename_i hpo
  obtain ⟨hnd, hed, hbl⟩ := parOk_eq hpo
  rw [lf_eq] at h
  have hnn : ∀ (i : Nat) (s : SV), (nones ops.toList)[i]? ≠ some (some s) := fun i s hs => by
    rw [nones_eq, List.getElem?_replicate] at hs
    split at hs <;> cases hs
  have hp : Past T P ops.toList es (eraseE (dsts ops.toList) E.ts) E.ds H (nones ops.toList) := ⟨fun j o s _ _ hs => absurd hs (hnn j s), fun j o s _ _ _ hs => absurd hs (hnn j s)⟩
  obtain ⟨m, σ, _, hgr, N, hp'⟩ := node_of hed (by rw [nones_eq]; simp) hp h
  refine ⟨fun b0 β a w R => ?_⟩
  refine par_T (K := fun σ H' => lf (fullO ops.toList σ (eraseE (dsts ops.toList) E.ts)) fun ts => K .normal ⟨ts, E.ds⟩ H') (Em := eraseE (dsts ops.toList) E.ts) (Ds := E.ds) (β0 := β) (H0 := H) (w0 := { w with drawn := w.drawn + 1 }) (n := n) (b0 := b0) hT hnd hed hbl (fun t s hts => (eraseE_get hts).2) (esOk_eq hok) ?_ ops.size ops.size _ a _ (by simp) (Nat.le_refl _) ?_
  · rintro listed a' w' I hall
    obtain ⟨β', m', σ', H', N', _, R', X', hD, hE, hef, hL⟩ := I.ex
    have hfin := N'.fin fun e he => by
      by_cases hel : e < ops.toList.length
      · exact (hef e he hel).1 (hall e (by simpa using hel))
      · exact absurd (esOk_lt hok e he) hel
    rw [lf_eq] at hfin
    refine ⟨β', ⟨fullO ops.toList σ' (eraseE (dsts ops.toList) E.ts), E.ds⟩, H', ⟨R', I.size, hD, fun t s hts => ?_⟩, (Ext.drew β H w).trans X', hfin⟩
    rcases fullO_get hts with ⟨k, o, hk, hd, hs⟩ | hts
    · obtain ⟨u, hu, hud⟩ := hL k o hk (hall k (by have h3 := (List.getElem?_eq_some_iff.1 hk).1; simpa using h3))
      rw [hu] at hs
      injection hs with hs; injection hs with hs; subst hs
      exact hud t hd
    · exact hE t s hts
  · have hrep : ∀ i : Nat, (Array.replicate ops.size false)[i]? ≠ some true := by
      intro i hi
      rw [Array.getElem?_replicate] at hi
      split at hi <;> cases hi
    refine ⟨⟨β, m, σ, H, N, hp', R.rep.drew, Ext.refl _ _ _, R.defs.ext (Ext.drew β H w), fun t s hts => R.env t s (eraseE_get hts).1, fun e he hel => ⟨fun h => absurd h (hrep e), fun ⟨s, hs⟩ => ?_⟩, fun i o _ h => absurd h (hrep i)⟩, R.size, by simp, fun j o _ h => absurd h (hrep j)⟩
    rw [hgr.2.2 e he] at hs
    exact absurd hs (hnn e s)
theorem Cd.parS (hT : TabOk T P) (hm : P.follows .mixedOrders = true) (es : List Nat) {n id : Nat} {ro : Option Nat} {ops : Array Oper} {E : Env} {H : Hp} {K : Exit → Env → Hp → Prop} (hok : parOkS n ops.toList es = true)
    (h : nd (splitL ops.toList) fun p => lf (eraseE (dsts p.1) E.ts) fun Em => vcT T P p.1 es Em E.ds (fun σ H' => lf (fullO p.1 σ Em) fun ts => stepC T P ro n ops.toList p.2 (fun E H K => K E H) ⟨ts, E.ds⟩ H' (K .normal)) (es.length + 1) (nones p.1) H) :
    Cd P n ro (.region id ops true) E H K := by
  obtain ⟨⟨l, oL⟩, hs, h⟩ := nd_elim h
  unfold parOkS at hok
  rw [hs] at hok
  simp only at hok
  split at hok
  case h_2 => cases hok
  rename_i h1 h2 h3
  have heq := splitL_eq hs
  have hops : ops = l.toArray.push oL := by apply Array.ext'; simpa using heq
  subst hops
  have hpt := h1
  unfold parOkT at hpt
  split at hpt
  case h_2 => cases hpt
  rename_i hpo
  obtain ⟨_, hed, _⟩ := parOk_eq hpo
  have A := CdA.parT (P := P) (T := T) hT es (ro := ro) (ops := l.toArray) (E := E) (H := H) (n := n) (K := fun e E' H' => match e with | .normal => stepC T P ro n (l.toArray.push oL).toList oL (fun E H K => K E H) E' H' (K .normal) | e => K e E' H') (by simpa using h1) (by simpa using h)
  refine ⟨fun b0 β a w R => wpIn_region_any hm ?_⟩
  have hA := A.run b0 β a w R
  have key := any_snoc (F := W0 ro) (n := 0) (P := P) (ops' := l.toArray) (oL := oL) (Q := fun e a' w' => ∃ β' E' H', RepA n b0 β' E' H' a' w' ∧ Ext β H w β' H' w' ∧ K e E' H')
    (fun i hi => by
      obtain ⟨e, he, hei⟩ := waits_eq h2 i (by simpa using hi)
      exact ⟨e, by simpa using bnds_mem he, (edgeOk_eq h3 e he).1, hei⟩)
    (fun e he hb => by have := (edgeOk_eq h3 e (bnds_of (by simpa using he) hb)).2; simpa using this)
    (by simpa using hed)
    (fun j o ho => ⟨fun e he hb => by
        have := (edgesOk_eq hed j o (by simpa using ho) e (bnds_of (by simpa using he) hb)).2
        have hj := (Array.getElem?_eq_some_iff.1 ho).1
        simp at hj
        simp
        omega, fun g hg => by
        have := guardsOk_eq hok o (by have := List.mem_of_getElem? (show l[j]? = some o by simpa using ho); exact this) g hg
        simpa using this⟩)
    l.toArray.size (Array.replicate l.toArray.size false) a { w with drawn := w.drawn + 1 } (by simp)
  have e1 : (Array.replicate l.toArray.size false).push false = Array.replicate (l.toArray.push oL).size false := by
    apply Array.ext'
    simp [List.replicate_succ']
  rw [e1] at key
  have e2 : l.toArray.size + 1 = (l.toArray.push oL).size := by simp
  rw [e2] at key
  refine key (wpAnyIn_monoQ ?_ _ _ _ _ hA)
  intro e a' w' hq
  cases e with
  | normal =>
    obtain ⟨β', E', H', R', X', hk⟩ := hq
    simp only at hk
    have hs := vcOps_sound hT (ro := ro) (n := n) (ops := l.toArray.push oL) (Q := fun e a' w' => ∃ β' E' H', RepA n b0 β' E' H' a' w' ∧ Ext β H w β' H' w' ∧ K e E' H') [oL] l.length (by
      intro j o ho
      cases j with
      | zero => simp at ho; subst ho; simp
      | succ j => simp at ho) R' (K := K .normal) hk (fun β2 E2 H2 a2 w2 R2 X2 hk2 => ⟨β2, E2, H2, R2, X'.trans X2, hk2⟩)
    simp only [List.length_singleton, List.range'_one, wpOpsIn_cons] at hs
    unfold lastQ
    simpa [wpOpsIn] using hs
  | _ => exact hq
end
end Go.Sy
namespace Go.Sy
open Go
section
variable {P : Program}
theorem blwR_mem {m : Nat} : ∀ {l : List Row}, blwR m l = true → ∀ r ∈ l, blwL m r.es = true
  | [], _, r, h => by cases h
  | x :: l, h, r, hr => by
    simp only [blwR] at h
    split at h
    · rename_i hx
      rcases List.mem_cons.1 hr with rfl | hr
      · exact hx
      · exact blwR_mem h r hr
    · cases h
theorem fm_pre {X rest : List Row} : (X ++ rest).filterMap Row.blk = X.filterMap Row.blk ++ rest.filterMap Row.blk := List.filterMap_append
theorem Tr.frameB {f : FuncId} {args : List SV} {nb : Nat} {boxes : List Bx} {rows : List Row} {Q : SV → List Row → Prop}
    (h : Tr P f args ⟨0, [], rows⟩ fun r H' => ∃ X rest, H'.rows = X ++ rest ∧ blw 0 r = true ∧ blwR 0 X = true ∧ Q r X) (ha : blwL 0 args = true) (hr : blwR 0 rows = true) :
    Tr P f args ⟨nb, boxes, rows⟩ fun r H' => ∃ X, H' = ⟨nb, boxes, X⟩ ∧ Q r X := by
  refine ⟨fun β w xs R hd => ?_⟩
  have cut0 : Cut 0 β ⟨[], β.g⟩ := ⟨fun i hi => absurd hi (Nat.not_lt_zero i), fun _ _ h => h⟩
  have hnd := List.nodup_append.1 R.nd
  have R0 : Rep ⟨[], β.g⟩ ⟨0, [], rows⟩ w := by
    refine ⟨rfl, rfl, fun i cs b h => by simp at h, fun r hr' => ?_, by simpa [owned] using hnd.2.1, fun a v hg => ⟨(R.g a v hg).1, fun hm => (R.g a v hg).2 ?_⟩⟩
    · obtain ⟨ws, h1, h2, h3, h4⟩ := R.row r hr'
      exact ⟨ws, DenL.cut (m := 0) cut0 _ _ (blwR_mem hr r hr') h1, h2, h3, h4⟩
    · simp only [owned, List.nil_append] at hm
      exact List.mem_append_right _ hm
  refine (h.run _ w xs R0 (DenL.cut (m := 0) cut0 _ _ ha hd)).mono ?_
  rintro x w' ⟨r, H', β', h1, h2, h3, X, rest, hX, hbr, hbX, hq⟩
  have hO0 : owned (⟨[], β.g⟩ : Gh) ⟨0, [], rows⟩ = rows.filterMap Row.blk := by simp [owned]
  have hOX : ∀ b ∈ X.filterMap Row.blk, b ∈ rows.filterMap Row.blk ∨ w.heap.size ≤ b := by
    intro b hb
    have := h3.own b (List.mem_append_right _ (by rw [hX, fm_pre]; exact List.mem_append_left _ hb))
    rw [hO0] at this
    exact this
  have hbw : ∀ b ∈ β.b, b < w.heap.size := fun b hb => R.blt b (List.mem_append_left _ hb)
  have hdj : ∀ b ∈ β.b, b ∉ X.filterMap Row.blk := by
    intro b hb hm
    rcases hOX b hm with h | h
    · exact hnd.2.2 b hb b h rfl
    · have := hbw b hb; omega
  have hbk : ∀ b ∈ β.b, w'.heap[b]? = w.heap[b]? := fun b hb => h3.fr.block b (hbw b hb) (by rw [hO0]; exact fun hm => hnd.2.2 b hb b hm rfl)
  have up : Gle β ⟨β.b, β'.g⟩ := ⟨List.prefix_refl _, h3.pre.2⟩
  have cutF : Cut 0 β' ⟨β.b, β'.g⟩ := ⟨fun i hi => absurd hi (Nat.not_lt_zero i), fun _ _ h => h⟩
  refine ⟨r, ⟨nb, boxes, X⟩, ⟨β.b, β'.g⟩, Den.cut (m := 0) cutF _ _ hbr h1, ⟨R.len, R.nb, fun i y b hi hb => ?_, fun r' hr' => ?_, ?_, fun a v hg => ?_⟩, ⟨up, ⟨h3.fr.os, h3.fr.tape, h3.fr.output, h3.fr.size, fun k hk hn => ?_⟩, fun b hb => ?_, fun a v hg => ?_⟩, X, rfl, hq⟩
  · exact (R.box i y b hi hb).mono up h3.fr.size (hbk b (List.mem_of_getElem? hb))
  · obtain ⟨ws, g1, g2, g3, g4⟩ := h2.row r' (by rw [hX]; exact List.mem_append_left _ hr')
    exact ⟨ws, DenL.cut (m := 0) cutF _ _ (blwR_mem hbX r' hr') g1, g2, g3, g4⟩
  · unfold owned
    refine List.nodup_append.2 ⟨hnd.1, ?_, fun a ha b hb e => hdj a ha (e ▸ hb)⟩
    have := (List.nodup_append.1 h2.nd).2.1
    rw [hX, fm_pre] at this
    exact (List.nodup_append.1 this).1
  · obtain ⟨g1, g2⟩ := h2.g a v hg
    refine ⟨g1, fun hm => ?_⟩
    rcases List.mem_append.1 hm with hm | hm
    · rcases h3.gn a v hg with h5 | h5 | h5
      · exact (R.g a v h5).2 (List.mem_append_left _ hm)
      · rw [hO0] at h5; exact hnd.2.2 _ hm _ h5 rfl
      · have := hbw _ hm; omega
    · exact g2 (List.mem_append_right _ (by rw [hX, fm_pre]; exact List.mem_append_left _ hm))
  · exact h3.fr.block k hk (by rw [hO0]; exact fun hm => hn (List.mem_append_right _ hm))
  · rcases List.mem_append.1 hb with hb | hb
    · exact .inl (List.mem_append_left _ hb)
    · rcases hOX b hb with h | h
      · exact .inl (List.mem_append_right _ h)
      · exact .inr h
  · rcases h3.gn a v hg with h5 | h5 | h5
    · exact .inl h5
    · rw [hO0] at h5; exact .inr (.inl (List.mem_append_right _ h5))
    · exact .inr (.inr h5)
/-- Likewise, where there are rows besides. -/
theorem Tr.frameR {f : FuncId} {args : List SV} {nb : Nat} {boxes : List Bx} {rows extra : List Row} {Q : SV → List Row → Prop}
    (h : Tr P f args ⟨0, [], rows⟩ fun r H' => ∃ X rest, H'.rows = X ++ rest ∧ blw 0 r = true ∧ blwR 0 X = true ∧ Q r X) (ha : blwL 0 args = true) (hr : blwR 0 rows = true) :
    Tr P f args ⟨nb, boxes, rows ++ extra⟩ fun r H' => ∃ X, H' = ⟨nb, boxes, X ++ extra⟩ ∧ Q r X := by
  refine ⟨fun β w xs R hd => ?_⟩
  have cut0 : Cut 0 β ⟨[], β.g⟩ := ⟨fun i hi => absurd hi (Nat.not_lt_zero i), fun _ _ h => h⟩
  have hown : owned β ⟨nb, boxes, rows ++ extra⟩ = β.b ++ (rows.filterMap Row.blk ++ extra.filterMap Row.blk) := by unfold owned; rw [fm_pre]
  have hnd := R.nd
  rw [hown] at hnd
  obtain ⟨hn1, hn2, hn3⟩ := List.nodup_append.1 hnd
  obtain ⟨hn4, hn5, hn6⟩ := List.nodup_append.1 hn2
  have R0 : Rep ⟨[], β.g⟩ ⟨0, [], rows⟩ w := by
    refine ⟨rfl, rfl, fun i cs b h => by simp at h, fun r hr' => ?_, by simpa [owned] using hn4, fun a v hg => ⟨(R.g a v hg).1, fun hm => (R.g a v hg).2 ?_⟩⟩
    · obtain ⟨ws, h1, h2, h3, h4⟩ := R.row r (List.mem_append_left _ hr')
      exact ⟨ws, DenL.cut (m := 0) cut0 _ _ (blwR_mem hr r hr') h1, h2, h3, h4⟩
    · simp only [owned, List.nil_append] at hm
      rw [hown]
      exact List.mem_append_right _ (List.mem_append_left _ hm)
  refine (h.run _ w xs R0 (DenL.cut (m := 0) cut0 _ _ ha hd)).mono ?_
  rintro x w' ⟨r, H', β', h1, h2, h3, X, rest, hX, hbr, hbX, hq⟩
  have hO0 : owned (⟨[], β.g⟩ : Gh) ⟨0, [], rows⟩ = rows.filterMap Row.blk := by simp [owned]
  have hOX : ∀ b ∈ X.filterMap Row.blk, b ∈ rows.filterMap Row.blk ∨ w.heap.size ≤ b := by
    intro b hb
    have := h3.own b (List.mem_append_right _ (by rw [hX, fm_pre]; exact List.mem_append_left _ hb))
    rw [hO0] at this
    exact this
  have hbw : ∀ b ∈ β.b, b < w.heap.size := fun b hb => R.blt b (by rw [hown]; exact List.mem_append_left _ hb)
  have hew : ∀ b ∈ extra.filterMap Row.blk, b < w.heap.size := fun b hb => R.blt b (by rw [hown]; exact List.mem_append_right _ (List.mem_append_right _ hb))
  have hdj : ∀ b ∈ β.b, b ∉ X.filterMap Row.blk := by
    intro b hb hm
    rcases hOX b hm with h | h
    · exact hn3 b hb b (List.mem_append_left _ h) rfl
    · have := hbw b hb; omega
  have hdx : ∀ b ∈ extra.filterMap Row.blk, b ∉ X.filterMap Row.blk := by
    intro b hb hm
    rcases hOX b hm with h | h
    · exact hn6 b h b hb rfl
    · have := hew b hb; omega
  have hbk : ∀ b ∈ β.b, w'.heap[b]? = w.heap[b]? := fun b hb => h3.fr.block b (hbw b hb) (by rw [hO0]; exact fun hm => hn3 b hb b (List.mem_append_left _ hm) rfl)
  have hbe : ∀ b ∈ extra.filterMap Row.blk, w'.heap[b]? = w.heap[b]? := fun b hb => h3.fr.block b (hew b hb) (by rw [hO0]; exact fun hm => hn6 b hm b hb rfl)
  have up : Gle β ⟨β.b, β'.g⟩ := ⟨List.prefix_refl _, h3.pre.2⟩
  have cutF : Cut 0 β' ⟨β.b, β'.g⟩ := ⟨fun i hi => absurd hi (Nat.not_lt_zero i), fun _ _ h => h⟩
  have hsz := h3.fr.size
  refine ⟨r, ⟨nb, boxes, X ++ extra⟩, ⟨β.b, β'.g⟩, Den.cut (m := 0) cutF _ _ hbr h1, ⟨R.len, R.nb, fun i y b hi hb => ?_, fun r' hr' => ?_, ?_, fun a v hg => ?_⟩, ⟨up, ⟨h3.fr.os, h3.fr.tape, h3.fr.output, h3.fr.size, fun k hk hn => ?_⟩, fun b hb => ?_, fun a v hg => ?_⟩, X, rfl, hq⟩
  · exact (R.box i y b hi hb).mono up h3.fr.size (hbk b (List.mem_of_getElem? hb))
  · rcases List.mem_append.1 hr' with hr' | hr'
    · obtain ⟨ws, g1, g2, g3, g4⟩ := h2.row r' (by rw [hX]; exact List.mem_append_left _ hr')
      exact ⟨ws, DenL.cut (m := 0) cutF _ _ (blwR_mem hbX r' hr') g1, g2, g3, g4⟩
    · exact (R.row r' (List.mem_append_right _ hr')).mono up hsz fun b hb => hbe b (List.mem_filterMap.2 ⟨r', hr', hb⟩)
  · unfold owned
    simp only [fm_pre]
    refine List.nodup_append.2 ⟨hn1, List.nodup_append.2 ⟨?_, hn5, fun a ha b hb e => hdx b hb (e ▸ ha)⟩, fun a ha b hb e => ?_⟩
    · have := (List.nodup_append.1 h2.nd).2.1
      rw [hX, fm_pre] at this
      exact (List.nodup_append.1 this).1
    · subst e
      rcases List.mem_append.1 hb with hb | hb
      · exact hdj a ha hb
      · exact hn3 a ha a (List.mem_append_right _ hb) rfl
  · obtain ⟨g1, g2⟩ := h2.g a v hg
    refine ⟨g1, fun hm => ?_⟩
    unfold owned at hm
    simp only [fm_pre] at hm
    have hin := h3.gn a v hg
    rw [hO0] at hin
    rcases List.mem_append.1 hm with hm | hm
    · rcases hin with h5 | h5 | h5
      · exact (R.g a v h5).2 (by rw [hown]; exact List.mem_append_left _ hm)
      · exact hn3 _ hm _ (List.mem_append_left _ h5) rfl
      · have := hbw _ hm; omega
    rcases List.mem_append.1 hm with hm | hm
    · exact g2 (List.mem_append_right _ (by rw [hX, fm_pre]; exact List.mem_append_left _ hm))
    · rcases hin with h5 | h5 | h5
      · exact (R.g a v h5).2 (by rw [hown]; exact List.mem_append_right _ (List.mem_append_right _ hm))
      · exact hn6 _ h5 _ hm rfl
      · have := hew _ hm; omega
  · exact h3.fr.block k hk (by rw [hO0]; exact fun hm => hn (by rw [hown]; exact List.mem_append_right _ (List.mem_append_left _ hm)))
  · rw [hown]
    unfold owned at hb
    simp only [fm_pre] at hb
    rcases List.mem_append.1 hb with hb | hb
    · exact .inl (List.mem_append_left _ hb)
    rcases List.mem_append.1 hb with hb | hb
    · rcases hOX b hb with h | h
      · exact .inl (List.mem_append_right _ (List.mem_append_left _ h))
      · exact .inr h
    · exact .inl (List.mem_append_right _ (List.mem_append_right _ hb))
  · have hin := h3.gn a v hg
    rw [hO0] at hin
    rcases hin with h5 | h5 | h5
    · exact .inl h5
    · exact .inr (.inl (by rw [hown]; exact List.mem_append_right _ (List.mem_append_left _ h5)))
    · exact .inr (.inr h5)
theorem Tr.thn2 {f : FuncId} {args : List SV} {H : Hp} {Q : SV → Hp → Prop} {K : SV → Hp → Prop} (h : Tr P f args H Q) (hk : ∀ r H', Q r H' → K r H') : Tr P f args H K := h.mono hk
end
end Go.Sy

