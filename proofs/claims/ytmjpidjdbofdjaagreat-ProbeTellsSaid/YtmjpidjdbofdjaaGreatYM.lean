import Derived.Test.YtmjpidjdbofdjaaGreatYH
import Derived.Laws.LoneSync
/- Sy, parts I to L: calls, regions in order, code, weakening, loops. Sy, part I: calls, regions in their order, code, by the kit's walk inside a (wide) fence: outside and inside rounds of loops over functions. Sy, part M: functions from their bodies; contracts that only tell values. -/
set_option linter.unusedVariables false
set_option linter.unusedSimpArgs false
namespace Go.Sy
open Go

/-- The fence that lets all in, in a round or not. -/
abbrev W0 (ro : Option Nat) : Fence := { fn := fun _ => True, depth := none, alive := false, round := ro }
theorem W0_room (ro : Option Nat) (n : Nat) : (W0 ro).room n := fun _ h => by cases h
theorem callsIn_W0 {ro : Option Nat} {n : Nat} {P : Program} {f : FuncId} {args : Array Value} {w : World} {R : Ending → World → Prop} : CallsIn (W0 ro) n P f args w R ↔ Calls P f args w R :=
  (show CallsIn (W0 ro) n P f args w R ↔ CallsIn Fence.wide n P f args w R from Iff.rfl).trans callsIn_wide

/-- A call from w comes to a value and a world of which Φ holds: it enters a body, or the model answers for it. -/
def Ran (P : Program) (f : FuncId) (xs : Array Value) (w : World) (Φ : Value → World → Prop) : Prop :=
  ((∃ fn, P.funcs[f]? = some fn ∧ fn.body.isSome = true ∧ (fn.name == "runtime.NumGoroutine") = false) ∧ Calls P f xs w fun e w' => ∃ x, e = .returned x ∧ Φ x w') ∨
  ∃ x w', (callFunc f xs).run P w = .ok (.value x) w' ∧ Φ x w'
theorem Ran.mono {P : Program} {f : FuncId} {xs : Array Value} {w : World} {Φ Ψ : Value → World → Prop} (h : Ran P f xs w Φ) (k : ∀ x w', Φ x w' → Ψ x w') : Ran P f xs w Ψ := by
  rcases h with ⟨h1, h2⟩ | ⟨x, w', h1, h2⟩
  · exact .inl ⟨h1, h2.mono fun _ _ ⟨x, h3, h4⟩ => ⟨x, h3, k _ _ h4⟩⟩
  · exact .inr ⟨x, w', h1, k _ _ h2⟩
/-- A call, from a state: it returns, and Q holds of its result and of the state behind. -/
structure Tr (P : Program) (f : FuncId) (args : List SV) (H : Hp) (Q : SV → Hp → Prop) : Prop where
  run : ∀ β w xs, Rep β H w → DenL β args xs → Ran P f xs.toArray w fun x w' =>
    ∃ r H' β', Den β' r x ∧ Rep β' H' w' ∧ Ext β H w β' H' w' ∧ Q r H'
theorem Tr.mono {P : Program} {f : FuncId} {args : List SV} {H : Hp} {Q Q' : SV → Hp → Prop} (h : Tr P f args H Q) (hq : ∀ r H', Q r H' → Q' r H') : Tr P f args H Q' :=
  ⟨fun β w xs R hd => (h.run β w xs R hd).mono fun _ _ ⟨r, H', β', h2, h3, h4, h5⟩ => ⟨r, H', β', h2, h3, h4, hq _ _ h5⟩⟩
/-- One round of a loop over a function, from a state: what yield hands back. -/
structure RdQ (P : Program) (i : Nat) (as : List SV) (H : Hp) (k : SV → Hp → Prop) : Prop where
  run : ∀ β w l xs, Rep β H w → β.b[i]? = some l → DenL β as xs → ∃ r : Loop, w.heap[l]? = some (.loop r) ∧ r.params.size = xs.length ∧
    RoundIn (W0 none) 0 P l r.fn ((r.params.zip xs.toArray).foldl (fun tmps (t, a) => tmps.setIfInBounds t a) r.tmps) r.assign r.body w
      (fun e w' => ∃ y, e = .returned y ∧ ∃ s H' β', Den β' s y ∧ Rep β' H' w' ∧ Ext β H w β' H' w' ∧ k s H')
/-- The function that a method of a value behind an interface is. -/
def methOf (P : Program) (t : TypeId) (name : String) : Option FuncId :=
  match P.info? t with
  | some ti => match ti.methods.find? (·.name == name) with
    | some m => match m.path.toList, m.func with
      | [], some (f, pr) => match P.underlying t with
        | some (.pointer _) => if pr then some f else none
        | some _ => if pr then none else some f
        | none => none
      | _, _ => none
    | none => none
  | none => none
def callS (T : List TI) (P : Program) (c : Call) (E : Env) (H : Hp) (k : SV → Hp → Prop) : Prop :=
  match c.callee with
  | .value f => nd (ev E f) fun s => nd (evs E c.args.toList) fun as => match s with
    | .clo (.func g) a cs => lf (a ++ as ++ cs) fun l => Tr P g l H k
    | .yld i => RdQ P i as H k
    | _ => False
  | .builtin b => nd (evs E c.args.toList) fun as => bltS T P b c.argTypes.toList as H k
  | .invoke r m => nd (ev E r) fun s => nd (evs E c.args.toList) fun as => match s with
    | .ifc t x => ∃ g, methOf P t m = some g ∧ lf (x :: as) fun l => Tr P g l H k
    | _ => False

/-! ### Regions -/
def dstOf : List Oper → Nat → Option Nat
  | [], _ => none
  | o :: _, 0 => o.dst
  | _ :: r, j + 1 => dstOf r j
theorem dstOf_eq : ∀ (l : List Oper) (j : Nat), dstOf l j = (l[j]?).bind (·.dst)
  | [], _ => rfl
  | o :: _, 0 => rfl
  | _ :: r, j + 1 => by simp only [dstOf, dstOf_eq r j]; simp
/-- A slice that came in, held against nil: either, unless it has elements. -/
def nilC (T : List TI) (P : Program) (op : BinOp) (t : TypeId) (x y : Operand) (z : TypeId) (E : Env) (H : Hp) (k : SV → Hp → Prop) : Prop :=
  match ev E y with
  | some (.v (.slice none 0 0)) => match ev E x with
    | some (.lst _ _ es) => nd (getT T t) fun i => match i.d, op with
      | .slice _ _ _ _, .eql => ∀ b : Bool, (b = true → es = []) → k (.v (.bool b)) H
      | .slice _ _ _ _, .neq => ∀ b : Bool, (b = false → es = []) → k (.v (.bool b)) H
      | _, _ => False
    | _ => opS T P (.binOp op t x y z) E H k
  | _ => opS T P (.binOp op t x y z) E H k
def opC (T : List TI) (P : Program) (o : Oper) (E : Env) (H : Hp) (k : SV → Hp → Prop) : Prop :=
  match o.op with
  | .call c => callS T P c E H k
  | .binOp op t x y z => nilC T P op t x y z E H k
  | op => opS T P op E H k
/-- A call is deferred. -/
def defS (c : Call) (ro : Option Nat) (E : Env) (k : Env → Prop) : Prop :=
  match ro, c.callee with
  | none, .value f => nd (ev E f) fun s => nd (evs E c.args.toList) fun as => match s with
    | .clo g a cs => lf (a ++ as) fun l => k ⟨E.ts, .clo g l cs :: E.ds⟩
    | _ => False
  | _, _ => False
/-- One operation that is done, and what is behind it. -/
def boxC (T : List TI) (P : Program) (t : TypeId) (x : Operand) (E : Env) (H : Hp) (k : SV → Hp → Prop) : Prop :=
  match getT T t with
  | some i => match i.zero with
    | some [.pointer none, .slice none 0 0] => nd (ev E x) fun s => lf (cells s) fun cs => match cs with
      | [u, v] => match one u, one v with
        | true, true => ∀ g : Nat, addRow H ⟨some ⟨g, 0, none⟩, 1, 1, t, 2, [.agg [u, v]], false⟩ fun ri H' => k (.optr ri ⟨g, 0, none⟩ 0) H'
        | _, _ => False
      | _ => False
    | _ => opS T P (.box t x) E H k
  | none => opS T P (.box t x) E H k
/-- A pointer into a box is made an unsafe one. -/
def convC (T : List TI) (P : Program) (src dst : TypeId) (x : Operand) (E : Env) (H : Hp) (k : SV → Hp → Prop) : Prop :=
  match ev E x with
  | some (.loc i o) => (∃ t, P.underlying src = some (.pointer t) ∧ P.underlying dst = some .unsafePointer ∧ (P.info? t).map (fun i => decide (i.size = 0)) = some false) ∧
      nd (nth H.boxes i) fun bx => match bx with
        | .c cs => nd (nth cs o) fun _ => k (.loc i o) H
        | _ => False
  | _ => opS T P (.convert src dst x) E H k
def doC (T : List TI) (P : Program) (ro : Option Nat) (n : Nat) (o : Oper) (next : Env → Hp → (Env → Hp → Prop) → Prop) (E : Env) (H : Hp) (K : Env → Hp → Prop) : Prop :=
  match o.op with
  | .box t x => boxC T P t x E H fun s H' => put n o.dst s E fun E' => next E' H' K
  | .convert src dst x => convC T P src dst x E H fun s H' => put n o.dst s E fun E' => next E' H' K
  | .defer c => defS c ro E fun E' => put n o.dst (.v undef) E' fun E' => next E' H K
  | _ => opC T P o E H fun s H' => put n o.dst s E fun E' => next E' H' K
/-- One operation, and what is behind it. (By recursors, not by equations: Lean's kernel and its elaborator then unfold alike.) -/
def stepC (T : List TI) (P : Program) (ro : Option Nat) (n : Nat) (ops : List Oper) (o : Oper) (next : Env → Hp → (Env → Hp → Prop) → Prop) (E : Env) (H : Hp) (K : Env → Hp → Prop) : Prop :=
  match o.guard with
  | none => doC T P ro n o next E H K
  | some (j, want) => nd (dstOf ops j) fun d => nd (get E.ts d) fun g => match g with
    | .v (.bool b) => match want with
      | true => cnd b (doC T P ro n o next E H K) (put n o.dst (.v undef) E fun E' => next E' H K)
      | false => cnd b (put n o.dst (.v undef) E fun E' => next E' H K) (doC T P ro n o next E H K)
    | .v (.tuple _) => put n o.dst (.v undef) E fun E' => next E' H K
    | _ => False
noncomputable def vcOps (T : List TI) (P : Program) (ro : Option Nat) (n : Nat) (ops : List Oper) (l : List Oper) : Env → Hp → (Env → Hp → Prop) → Prop :=
  List.rec (motive := fun _ => Env → Hp → (Env → Hp → Prop) → Prop) (fun E H K => K E H) (fun o _ next => stepC T P ro n ops o next) l
theorem vcOps_cons {T : List TI} {P : Program} {ro : Option Nat} {n : Nat} {ops : List Oper} {o : Oper} {r : List Oper} {E : Env} {H : Hp} {K : Env → Hp → Prop} : vcOps T P ro n ops (o :: r) E H K = stepC T P ro n ops o (vcOps T P ro n ops r) E H K := rfl

section
variable {P : Program}
theorem run_callFunc {f : FuncId} {fn : Func} (hf : P.funcs[f]? = some fn) (hb : fn.body.isSome = true) (hn : (fn.name == "runtime.NumGoroutine") = false) (args : Array Value) (w : World) :
    (callFunc f args).run P w = .ok (.enter f args) w := by
  have hb' : fn.body ≠ none := by intro h; simp [h] at hb
  have hn' : fn.name ≠ "runtime.NumGoroutine" := by simpa using hn
  simp [callFunc, hf, hn', hb']
theorem run_method {t : TypeId} {name : String} {g : FuncId} (h : methOf P t name = some g) (fuel : Nat) (v : Value) (w : World) : (method (fuel + 1) t v name).run P w = .ok (g, v) w := by
  unfold methOf at h
  split at h
  case h_2 => cases h
  rename_i ti hti
  split at h
  case h_2 => cases h
  rename_i m hm
  split at h
  case h_2 => cases h
  rename_i f pr hpath hfun
  split at h
  · rename_i e hu
    split at h
    case isFalse => cases h
    rename_i hpr
    injection h with h
    subst h
    simp [method, typeInfo, hti, hm, hpath, follow, hfun, receiverAt, run_underlying hu, hpr, Place.get, Sem.run_pure]
  · rename_i d hne hu
    split at h
    case isTrue => cases h
    rename_i hpr
    injection h with h
    subst h
    have hpr : pr = false := by simpa using hpr
    subst hpr
    have hrec : ∀ wr, (receiverAt t (.val v) false wr).run P w = .ok v w := by
      intro wr
      unfold receiverAt
      simp only [Sem.run_bind, run_underlying hu, Result.andThen_ok]
      cases d <;> first
        | (exact absurd rfl (hne _))
        | simp [Place.get, Sem.run_pure]
    simp [method, typeInfo, hti, hm, hpath, follow, hfun, hrec, Sem.run_pure]
  · cases h

/-- What a step of a region must show: from the operation's own work to the rest. -/
theorem opC_wp {T : List TI} (hT : TabOk T P) {ro : Option Nat} {n b0 : Nat} {β : Gh} {E : Env} {H : Hp} {a : Act} {w : World} (R : RepA n b0 β E H a w) {o : Oper} {k : SV → Hp → Prop} (hnd : ∀ c, o.op ≠ .defer c) (h : opC T P o E H k)
    {next : Act → World → Prop} {Q : Exit → Act → World → Prop}
    (hk : ∀ β' s y H' w', Den β' s y → Rep β' H' w' → Ext β H w β' H' w' → k s H' → next (a.put o.dst y) w') : o.wpIn (W0 ro) 0 P a w next Q := by
  refine ⟨fun _ _ => trivial, ?_⟩
  show o.uponIn (W0 ro) 0 P a next Q ((o.semAt ro a.eval).run P w)
  rw [Oper.semAt_eq ro a.eval o hnd]
  have fin : Goes P β H w (execOp a.eval o) k → o.uponIn (W0 ro) 0 P a next Q ((execOp a.eval o).run P w) := by
    rintro ⟨y, w', β', s, H', hr, hd, R', X', hkk⟩
    rcases hr with hr | ⟨hr, rfl⟩
    · rw [hr]; exact hk β' s y H' w' hd R' X' hkk
    · rw [hr]; exact hk β' s _ H' w' hd R' X' hkk
  unfold opC at h
  split at h
  · rename_i op c he
    have hres : ∀ d : Deferred, (resolve a.eval c o.type).run P w = .ok d w → (execOp a.eval o).run P w = (invoke d.target d.args).run P w := by
      intro d hd
      unfold execOp
      rw [he]
      simp only [Sem.run_bind, hd, Result.andThen_ok]
    -- a call of a function
    have call : ∀ {g : FuncId} {l : List SV} {xs : List Value}, DenL β l xs → Tr P g l H k → (execOp a.eval o).run P w = (callFunc g xs.toArray).run P w → o.uponIn (W0 ro) 0 P a next Q ((execOp a.eval o).run P w) := by
      intro g l xs hdl h hr0
      rcases h.run β w _ R.rep hdl with ⟨⟨fn, hf, hb, hn⟩, hrun⟩ | ⟨x, w', hx, r, H', β', h3, h4, h5, h6⟩
      · rw [hr0, run_callFunc hf hb hn]
        refine ⟨(fun h => by cases h), callsIn_W0.2 (hrun.mono ?_)⟩
        rintro e w' ⟨x, rfl, r, H', β', h3, h4, h5, h6⟩
        exact hk β' r x H' w' h3 h4 h5 h6
      · rw [hr0, hx]
        exact hk β' r x H' w' h3 h4 h5 h6
    unfold callS at h
    split at h
    · rename_i cal f hc
      replace h := nd_elim h
      obtain ⟨s, hs, h⟩ := h
      replace h := nd_elim h
      obtain ⟨as, has, h⟩ := h
      have hd := ev_den R hs
      have hda := evs_den R has
      split at h
      · rename_i g l1 l2
        rw [lf_eq] at h
        obtain ⟨xs, ys, h1, h2, hy⟩ := hd
        refine call (DenL.append (DenL.append h1 hda) h2) h ?_
        rw [hres { target := .fn (.func g) ys.toArray, args := xs.toArray ++ c.args.map a.eval } (by simp [resolve, hc, hy, Deferred.ofValue])]
        simp only [invoke]
        congr 2
        apply Array.ext'
        simp
      · rename_i i
        obtain ⟨l, hl, hy⟩ := hd
        obtain ⟨r, hr, hps, hround⟩ := h.run β w l _ R.rep hl hda
        rw [hres { target := .fn (.yield l) #[], args := c.args.map a.eval } (by simp [resolve, hc, hy, Deferred.ofValue])]
        have hir : (invoke (.fn (.yield l) #[]) (c.args.map a.eval)).run P w = .ok (.round l r.fn ((r.params.zip (c.args.map a.eval)).foldl (fun tmps (t, a) => tmps.setIfInBounds t a) r.tmps) r.assign r.body) w := by
          simp only [invoke, Instr.yield, Instr.getLoop, Sem.run_bind]
          simp [getObj, Sem.run, hr, Sem.run_pure, show c.args.size = r.params.size by rw [hps]; simp]
        rw [hir]
        have e1 : (c.args.toList.map a.eval).toArray = c.args.map a.eval := by apply Array.ext'; simp
        rw [e1] at hround
        refine ⟨(fun h => by cases h), RoundIn.mono (F := W0 none) hround ?_⟩
        rintro e w' ⟨y, rfl, s, H', β', h3, h4, h5, h6⟩
        exact hk β' s y H' w' h3 h4 h5 h6
      · exact h.elim
    · rename_i b hc
      replace h := nd_elim h
      obtain ⟨as, has, h⟩ := h
      have hda := evs_den R has
      refine fin ?_
      obtain ⟨y, w', β', s, H', hr, hd, R', X', hkk⟩ := bltS_goes (P := P) hT R.rep (ty := o.type) (cn := c.args.map fun | .const _ => true | _ => false) hda h
      refine ⟨y, w', β', s, H', ?_, hd, R', X', hkk⟩
      have e : (execOp a.eval o).run P w = (builtin b c.argTypes o.type (c.args.map fun | .const _ => true | _ => false) (c.args.toList.map a.eval).toArray).run P w := by
        rw [hres { target := .builtin b c.argTypes o.type (c.args.map fun | .const _ => true | _ => false), args := c.args.map a.eval } (by simp [resolve, hc]; intro a _; cases a <;> rfl)]
        simp only [invoke]
        congr 2
        apply Array.ext'
        simp
      rw [e]
      exact hr
    · rename_i rc m hc
      replace h := nd_elim h
      obtain ⟨s, hs, h⟩ := h
      replace h := nd_elim h
      obtain ⟨as, has, h⟩ := h
      have hd := ev_den R hs
      have hda := evs_den R has
      split at h
      case h_2 => exact h.elim
      rename_i t x
      obtain ⟨g, hg, h⟩ := h
      rw [lf_eq] at h
      obtain ⟨z, hz, hy⟩ := hd
      refine call (l := x :: as) (xs := z :: c.args.toList.map a.eval) ⟨z, _, hz, hda, rfl⟩ h ?_
      rw [hres { target := .fn (.method m) #[], args := #[a.eval rc] ++ c.args.map a.eval } (by simp [resolve, hc])]
      simp only [invoke, hy]
      have e1 : (#[Value.iface t z] ++ c.args.map a.eval)[0]? = some (Value.iface t z) := by
        rw [Array.getElem?_append_left (by simp)]; rfl
      have e2 : (#[Value.iface t z] ++ c.args.map a.eval).extract 1 (#[Value.iface t z] ++ c.args.map a.eval).size = c.args.map a.eval := by
        apply Array.ext'
        simp [List.take_of_length_le]
      simp only [e1, e2, callMethod, Sem.run_bind]
      have hp : (program).run P w = .ok P w := rfl
      simp only [hp, Result.andThen_ok]
      have hfu : ∃ f, P.types.size + Made.depth = f + 1 := ⟨P.types.size + Made.depth - 1, by simp [Made.depth]⟩
      obtain ⟨fu, hfu⟩ := hfu
      rw [hfu, run_method hg]
      simp only [Result.andThen_ok]
      congr 2
      apply Array.ext'
      simp
  · rename_i op0 op t x y z he
    unfold nilC at h
    split at h
    case h_2 => exact fin (opS_goes hT R (by rw [he]; exact h))
    rename_i hyv
    split at h
    case h_2 => exact fin (opS_goes hT R (by rw [he]; exact h))
    rename_i f0 sz0 es0 hxv
    refine fin ?_
    replace h := nd_elim h
    obtain ⟨i, hi, h⟩ := h
    obtain ⟨ti⟩ := hT.get hi
    have htd := ti.d
    have hx := ev_den R hxv
    have hy := ev_den R hyv
    simp only [Den] at hx hy
    have fin : ∀ {e es eb ea}, i.d = .slice e es eb ea → ∃ e, P.underlying t = some (.slice e) := by
      intro e es eb ea hid
      rw [hid] at htd
      unfold tdOf at htd
      split at htd <;> try (first | (simp at htd; done) | (split at htd <;> simp at htd; done))
      rename_i e' hdesc
      exact ⟨e', by rw [ti.und, hdesc]⟩
    obtain ⟨A, n', c', ws, hw1, hw2, hx⟩ := hx
    have hnil : A.isNone = true → es0 = [] := by
      intro hA
      have hA : A = none := by simpa using hA
      have h3 := (hw2.nil hA).1
      have h4 := hw2.len
      have h5 := hw1.length
      exact List.eq_nil_of_length_eq_zero (by omega)
    have run : ∀ {e : TypeId}, P.underlying t = some (.slice e) → (Op.equalIn 10000 t (.slice A n' c') (.slice none 0 0)).run P w = .ok A.isNone w := fun he => run_eqnil w 9999 A _ _ he
    split at h
    · rename_i hid
      obtain ⟨e, hu⟩ := fin hid
      refine .plain R.rep ?_ (h A.isNone hnil)
      unfold execOp
      rw [he]
      simp only [Sem.run_bind, hx, hy, eqGuard, binOp]
      simp only [Op.equal, Op.maxDepth]
      simp [run hu]
    · rename_i hid
      obtain ⟨e, hu⟩ := fin hid
      refine .plain R.rep ?_ (h (!A.isNone) (fun hb => hnil (by simpa using hb)))
      unfold execOp
      rw [he]
      simp only [Sem.run_bind, hx, hy, eqGuard, binOp]
      simp only [Op.equal, Op.maxDepth]
      simp [run hu]
    · exact h.elim
  · exact fin (opS_goes hT R h)
end
end Go.Sy

/- Sy, part J: regions in their order, code; loops. -/
namespace Go.Sy
open Go
section
variable {P : Program}
/-- An operation's own work, within a region. -/
theorem goes_wp {ro : Option Nat} {n b0 : Nat} {β : Gh} {E : Env} {H : Hp} {a : Act} {w : World} (R : RepA n b0 β E H a w) {o : Oper} {k : SV → Hp → Prop} (hnd : ∀ c, o.op ≠ .defer c) (h : Goes P β H w (execOp a.eval o) k)
    {next : Act → World → Prop} {Q : Exit → Act → World → Prop}
    (hk : ∀ β' s y H' w', Den β' s y → Rep β' H' w' → Ext β H w β' H' w' → k s H' → next (a.put o.dst y) w') : o.wpIn (W0 ro) 0 P a w next Q := by
  refine ⟨fun _ _ => trivial, ?_⟩
  show o.uponIn (W0 ro) 0 P a next Q ((o.semAt ro a.eval).run P w)
  rw [Oper.semAt_eq ro a.eval o hnd]
  obtain ⟨y, w', β', s, H', hr, hd, R', X', hkk⟩ := h
  rcases hr with hr | ⟨hr, rfl⟩
  · rw [hr]; exact hk β' s y H' w' hd R' X' hkk
  · rw [hr]; exact hk β' s _ H' w' hd R' X' hkk
theorem boxC_goes {T : List TI} (hT : TabOk T P) {n b0 : Nat} {β : Gh} {E : Env} {H : Hp} {a : Act} {w : World} (R : RepA n b0 β E H a w) {o : Oper} {t : TypeId} {x : Operand} (ho : o.op = .box t x) {k : SV → Hp → Prop} (h : boxC T P t x E H k) : Goes P β H w (execOp a.eval o) k := by
  unfold boxC at h
  split at h
  · split at h
    · replace h := nd_elim h
      obtain ⟨s, hs, h⟩ := h
      rw [lf_eq] at h
      split at h
      case h_2 => exact h.elim
      rename_i u v hc
      split at h
      case h_2 => exact h.elim
      rename_i hu hv
      have hd := den_cells (ev_den R hs)
      rw [hc] at hd
      have hd0 := hd
      obtain ⟨yu, zs, d1, ⟨yv, zs2, d2, d3, rfl⟩, he⟩ := hd
      simp only [DenL] at d3
      subst d3
      have h1 := one_cell hu d1
      have h2 := one_cell hv d2
      replace h := addRow_eq (h w.heap.size)
      have hcl : cellsL [Value.agg #[yu, yv]] = [yu, yv] := by simp [cellsL, Value.cells]
      obtain ⟨R', X'⟩ := R.rep.rowAdd (w' := w.alloc (.cells (a.eval x).cells t)) (r' := ⟨some ⟨w.heap.size, 0, none⟩, 1, 1, t, 2, [.agg [u, v]], false⟩)
        ⟨[.agg #[yu, yv]], ⟨_, _, ⟨[yu, yv], ⟨yu, _, d1, ⟨yv, _, d2, rfl, rfl⟩, rfl⟩, rfl⟩, rfl, rfl⟩, by simp [Value.cells], rfl, by
          refine ⟨⟨by rw [hcl]; rfl, .inr ⟨w.heap.size, 1, _, rfl, Nat.zero_le _, heap_alloc_new w _, Nat.le_refl _, by decide, ?_, ?_⟩⟩, ?_⟩
          · have : (a.eval x).cells.size = (a.eval x).cells.toList.length := by simp
            rw [this, he]; rfl
          · rw [he, hcl]; rfl
          · rw [hcl]; intro z hz; simp only [List.mem_cons, List.not_mem_nil, or_false] at hz; rcases hz with rfl | rfl
            · exact h1
            · exact h2⟩
        ⟨rfl, rfl, rfl, by simp⟩ (fun k hk => Go.RowKit.Below.heap_alloc _ _ _ hk) (fun b hb => by simp [Row.blk] at hb; omega)
      refine ⟨_, _, _, .optr H.rows.length ⟨w.heap.size, 0, none⟩ 0, _, .inl ?_, rfl, R', X', h⟩
      unfold execOp
      rw [ho]
      simp [Instr.box, newVar, newRow, newObj, Sem.run, Addr.add]
    · exact opS_goes hT R (by rw [ho]; exact h)
  · exact opS_goes hT R (by rw [ho]; exact h)
theorem convC_goes {T : List TI} (hT : TabOk T P) {n b0 : Nat} {β : Gh} {E : Env} {H : Hp} {a : Act} {w : World} (R : RepA n b0 β E H a w) {o : Oper} {src dst : TypeId} {x : Operand} (ho : o.op = .convert src dst x) {k : SV → Hp → Prop} (h : convC T P src dst x E H k) : Goes P β H w (execOp a.eval o) k := by
  unfold convC at h
  split at h
  · rename_i i off hx
    obtain ⟨⟨t, h1, h2, h3⟩, h⟩ := h
    replace h := nd_elim h
    obtain ⟨bx, hbx, h⟩ := h
    split at h
    case h_2 => exact h.elim
    rename_i cs
    replace h := nd_elim h
    obtain ⟨c, hc, h⟩ := h
    rw [nth_eq] at hbx hc
    obtain ⟨b, hb, xs, tt, g1, g2⟩ := R.rep.box_at hbx
    obtain ⟨y, hy, _⟩ := g1.get hc
    obtain ⟨b', hb', hev⟩ := ev_den R hx
    rw [hb] at hb'; injection hb' with hb'; subst hb'
    have hcell : w.cell? ⟨b, off, none⟩ = some y := by simp [World.cell?, g2, hy]
    have hcv := run_convert_to_unsafe (P := P) h1 h2 h3 hcell
    refine .stay R.rep (y := .pointer (some ⟨b, off, none⟩)) ?_ (s := .loc i off) ⟨b, hb, rfl⟩ h
    unfold execOp
    rw [ho]
    simp only [hev, Sem.run_bind, hcv, Result.andThen_ok, Sem.run_pure]
  · exact opS_goes hT R (by rw [ho]; exact h)
/-- One operation that is done, within a region. -/
theorem doC_wp {T : List TI} (hT : TabOk T P) {ro : Option Nat} {n b0 : Nat} {β : Gh} {E : Env} {H : Hp} {a : Act} {w : World} (R : RepA n b0 β E H a w) {o : Oper} {next : Env → Hp → (Env → Hp → Prop) → Prop} {K : Env → Hp → Prop}
    (h : doC T P ro n o next E H K) {nx : Act → World → Prop} {Q : Exit → Act → World → Prop}
    (hk : ∀ β' E' H' a' w', RepA n b0 β' E' H' a' w' → Ext β H w β' H' w' → next E' H' K → nx a' w') : o.wpIn (W0 ro) 0 P a w nx Q := by
  unfold doC at h
  split at h
  · rename_i op t x he
    refine goes_wp R (fun c e => by rw [he] at e; cases e) (boxC_goes hT R he h) ?_
    intro β' s y H' w' hd R' X' hk2
    obtain ⟨E', hk', RA⟩ := R.put R' X' hd hk2
    exact hk β' E' H' _ w' RA X' hk'
  · rename_i op src dst x he
    refine goes_wp R (fun c e => by rw [he] at e; cases e) (convC_goes hT R he h) ?_
    intro β' s y H' w' hd R' X' hk2
    obtain ⟨E', hk', RA⟩ := R.put R' X' hd hk2
    exact hk β' E' H' _ w' RA X' hk'
  · rename_i op c he
    unfold defS at h
    split at h
    case h_2 => exact h.elim
    rename_i f hc
    replace h := nd_elim h
    obtain ⟨s, hs, h⟩ := h
    replace h := nd_elim h
    obtain ⟨as, has, h⟩ := h
    split at h
    case h_2 => exact h.elim
    rename_i g l1 l2
    rw [lf_eq] at h
    obtain ⟨xs, ys, h1, h2, hy⟩ := ev_den R hs
    have hda := evs_den R has
    refine ⟨fun _ _ => trivial, ?_⟩
    show o.uponIn (W0 none) 0 P a nx Q ((o.semAt none a.eval).run P w)
    rw [Oper.semAt_none]
    have hr : (execOp a.eval o).run P w = .ok (.defer { target := .fn g ys.toArray, args := xs.toArray ++ c.args.map a.eval }) w := by
      unfold execOp
      rw [he]
      simp [resolve, hc, hy, Deferred.ofValue, Sem.run_pure]
    rw [hr]
    have R2 : RepA n b0 β ⟨E.ts, .clo g (l1 ++ as) l2 :: E.ds⟩ H { a with defers := { target := .fn g ys.toArray, args := xs.toArray ++ c.args.map a.eval } :: a.defers } w :=
      ⟨R.rep, R.size, .inr ⟨_, _, rfl, ⟨xs ++ c.args.toList.map a.eval, ys, h1.append hda, h2, by congr 1; apply Array.ext'; simp⟩, R.defs⟩, R.env⟩
    obtain ⟨E', hk', RA⟩ := R2.put R2.rep (Ext.refl _ _ _) (s := .v undef) (x := undef) rfl h
    exact hk β E' H _ w RA (Ext.refl _ _ _) hk'
  · rename_i hnd
    refine opC_wp hT R (fun c e => hnd c e) h ?_
    intro β' s y H' w' hd R' X' hk2
    obtain ⟨E', hk', RA⟩ := R.put R' X' hd hk2
    exact hk β' E' H' _ w' RA X' hk'
theorem vcOps_sound {T : List TI} (hT : TabOk T P) {ro : Option Nat} {n : Nat} {ops : Array Oper} {Q : Exit → Act → World → Prop} : ∀ (l : List Oper) (i : Nat) {b0 : Nat} {β : Gh} {E : Env} {H : Hp} {a : Act} {w : World} {K : Env → Hp → Prop},
    (∀ j o, l[j]? = some o → ops[i + j]? = some o) → RepA n b0 β E H a w → vcOps T P ro n ops.toList l E H K → (∀ β' E' H' a' w', RepA n b0 β' E' H' a' w' → Ext β H w β' H' w' → K E' H' → Q .normal a' w') → wpOpsIn (W0 ro) 0 P ops Q (List.range' i l.length) a w
  | [], i, b0, β, E, H, a, w, K, hl, R, h, hQ => hQ β E H a w R (Ext.refl _ _ _) h
  | o :: rest, i, b0, β, E, H, a, w, K, hl, R, h, hQ => by
    have ho : ops[i]? = some o := hl 0 o rfl
    have hl' : ∀ j o', rest[j]? = some o' → ops[i + 1 + j]? = some o' := fun j o' hj => by
      rw [show i + 1 + j = i + (j + 1) by omega]; exact hl (j + 1) o' hj
    rw [List.length_cons, List.range'_succ]
    simp only [wpOpsIn, ho]
    have doit : doC T P ro n o (vcOps T P ro n ops.toList rest) E H K → o.wpIn (W0 ro) 0 P a w (wpOpsIn (W0 ro) 0 P ops Q (List.range' (i + 1) rest.length)) Q := by
      intro h
      refine doC_wp hT R h ?_
      intro β' E' H' a' w' RA X' hk'
      exact vcOps_sound hT rest (i + 1) hl' RA hk' fun β2 E2 H2 a2 w2 R2 X2 h2 => hQ β2 E2 H2 a2 w2 R2 (X'.trans X2) h2
    have skip : put n o.dst (.v undef) E (fun E' => vcOps T P ro n ops.toList rest E' H K) → (∀ f, o.about P w a.eval = some f → (W0 ro).fn f) ∧ wpOpsIn (W0 ro) 0 P ops Q (List.range' (i + 1) rest.length) (a.put o.dst undef) w := by
      intro h
      obtain ⟨E', hk', RA⟩ := R.put R.rep (Ext.refl _ _ _) (s := .v undef) (x := undef) rfl h
      exact ⟨fun _ _ => trivial, vcOps_sound hT rest (i + 1) hl' RA hk' hQ⟩
    rw [vcOps_cons] at h
    unfold stepC at h
    split at h
    · rename_i hg
      rw [if_pos (by simp [Region.wanted, hg])]
      exact doit h
    · rename_i j want hg
      replace h := nd_elim h
      obtain ⟨d, hd, h⟩ := h
      replace h := nd_elim h
      obtain ⟨g, hgt, h⟩ := h
      obtain ⟨y, hy, hdy⟩ := R.env d g hgt
      rw [dstOf_eq] at hd
      have hd' : (ops[j]?).bind (·.dst) = some d := by simpa using hd
      have hyd : yielded ops a.tmps j = match y with | .bool b => some b | _ => none := by
        unfold yielded
        rw [hd']
        simp only [Option.bind_some, hy]
        cases y <;> rfl
      split at h
      · rename_i b
        simp only [Den] at hdy
        subst hdy
        simp only at hyd
        have hw : Region.wanted o (yielded ops a.tmps) = (b == want) := by
          simp only [Region.wanted, hg, hyd]
          cases b <;> cases want <;> rfl
        split at h
        · rcases cnd_elim h with ⟨rfl, h⟩ | ⟨rfl, h⟩
          · rw [if_pos (by rw [hw]; rfl)]; exact doit h
          · rw [if_neg (by rw [hw]; simp)]; exact skip h
        · rcases cnd_elim h with ⟨rfl, h⟩ | ⟨rfl, h⟩
          · rw [if_neg (by rw [hw]; simp)]; exact skip h
          · rw [if_pos (by rw [hw]; rfl)]; exact doit h
      · rename_i ts
        simp only [Den] at hdy
        subst hdy
        simp only at hyd
        rw [if_neg (by simp [Region.wanted, hg, hyd])]
        exact skip h
      · exact h.elim
end

/-! ### Code -/
structure Cd (P : Program) (n : Nat) (ro : Option Nat) (c : Code) (E : Env) (H : Hp) (K : Exit → Env → Hp → Prop) : Prop where
  run : ∀ b0 β a w, RepA n b0 β E H a w → c.wpIn (W0 ro) 0 P (fun e a' w' => ∃ β' E' H', RepA n b0 β' E' H' a' w' ∧ Ext β H w β' H' w' ∧ K e E' H') a w
theorem Cd.mono {P : Program} {n : Nat} {ro : Option Nat} {c : Code} {E : Env} {H : Hp} {K K' : Exit → Env → Hp → Prop} (h : Cd P n ro c E H K) (hk : ∀ e E' H', K e E' H' → K' e E' H') : Cd P n ro c E H K' :=
  ⟨fun b0 β a w R => wpIn_mono (h.run b0 β a w R) fun _ _ _ ⟨β', E', H', h1, h2, h3⟩ => ⟨β', E', H', h1, h2, hk _ _ _ h3⟩⟩
def seqK (ih : Env → Hp → (Exit → Env → Hp → Prop) → Prop) (K : Exit → Env → Hp → Prop) (e : Exit) (E : Env) (H : Hp) : Prop :=
  match e with
  | .normal => ih E H K
  | e => K e E H
def blockK (i : Nat) (K : Exit → Env → Hp → Prop) (e : Exit) (E : Env) (H : Hp) : Prop :=
  match e with
  | .exit j => match Nat.beq j i with
    | true => K .normal E H
    | false => K (.exit j) E H
  | e => K e E H
def condC (c : Operand) (ihx ihy : Env → Hp → (Exit → Env → Hp → Prop) → Prop) (E : Env) (H : Hp) (K : Exit → Env → Hp → Prop) : Prop :=
  nd (ev E c) fun s => match s with
    | .v (.bool b) => cnd b (ihx E H K) (ihy E H K)
    | _ => False
def regC (T : List TI) (P : Program) (n : Nat) (ro : Option Nat) (i : Nat) (ops : Array Oper) (d : Bool) (E : Env) (H : Hp) (K : Exit → Env → Hp → Prop) : Prop :=
  match d with
  | false => vcOps T P ro n ops.toList ops.toList E H (K .normal)
  | true => Cd P n ro (.region i ops true) E H K
noncomputable def vcC (T : List TI) (P : Program) (n : Nat) (ro : Option Nat) (c : Code) : Env → Hp → (Exit → Env → Hp → Prop) → Prop :=
  Code.rec (motive := fun _ => Env → Hp → (Exit → Env → Hp → Prop) → Prop)
    (fun E H K => K .normal E H)
    (fun i ops d => regC T P n ro i ops d)
    (fun _ _ ihx ihy E H K => ihx E H (seqK ihy K))
    (fun c _ _ ihx ihy => condC c ihx ihy)
    (fun i _ ih E H K => ih E H (blockK i K))
    (fun body _ E H K => Cd P n ro (.loop body) E H K)
    (fun f ps asg body _ _ E H K => Cd P n ro (.rangeFunc f ps asg body) E H K)
    (fun i E H K => K (.exit i) E H)
    (fun body _ E H K => Cd P n ro (.scope body) E H K)
    (fun _ E H K => K .normal E H)
    (fun l E H K => Cd P n ro (.goto l) E H K)
    (fun E H K => K .ret E H)
    (fun why E H K => Cd P n ro (.refuse why) E H K)
    c

theorem Cd.of_vc {P : Program} {T : List TI} (hT : TabOk T P) {n : Nat} {ro : Option Nat} : ∀ (c : Code) {E : Env} {H : Hp} {K : Exit → Env → Hp → Prop}, vcC T P n ro c E H K → Cd P n ro c E H K := by
  intro c
  induction c with
  | skip => exact fun h => ⟨fun b0 β a w R => wpIn_skip ⟨β, _, _, R, Ext.refl _ _ _, h⟩⟩
  | label l => exact fun h => ⟨fun b0 β a w R => wpIn_label ⟨β, _, _, R, Ext.refl _ _ _, h⟩⟩
  | exit i => exact fun h => ⟨fun b0 β a w R => wpIn_exit ⟨β, _, _, R, Ext.refl _ _ _, h⟩⟩
  | ret => exact fun h => ⟨fun b0 β a w R => wpIn_ret ⟨β, _, _, R, Ext.refl _ _ _, h⟩⟩
  | region i ops d =>
    intro E H K h
    have h : regC T P n ro i ops d E H K := h
    unfold regC at h
    split at h
    · refine ⟨fun b0 β a w R => wpIn_region ?_⟩
      have := vcOps_sound hT (Q := fun e a' w' => ∃ β' E' H', RepA n b0 β' E' H' a' w' ∧ Ext β H w β' H' w' ∧ K e E' H') ops.toList 0 (ops := ops) (fun j o hj => by simpa using hj) R h fun β' E' H' a' w' R' X' hk => ⟨β', E', H', R', X', hk⟩
      rw [List.range_eq_range']
      simpa using this
    · exact h
  | seq x y ihx ihy =>
    intro E H K h
    have h : vcC T P n ro x E H (seqK (vcC T P n ro y) K) := h
    refine ⟨fun b0 β a w R => wpIn_seq ?_⟩
    refine wpIn_mono ((ihx h).run b0 β a w R) ?_
    rintro e a' w' ⟨β', E', H', R', X', hk⟩
    cases e <;> first
      | exact ⟨β', E', H', R', X', hk⟩
      | exact wpIn_mono ((ihy hk).run b0 β' a' w' R') fun _ _ _ ⟨β2, E2, H2, R2, X2, h2⟩ => ⟨β2, E2, H2, R2, X'.trans X2, h2⟩
  | cond c x y ihx ihy =>
    intro E H K h
    have h : condC c (vcC T P n ro x) (vcC T P n ro y) E H K := h
    unfold condC at h
    obtain ⟨s, hs, h⟩ := nd_elim h
    split at h
    · rename_i b
      refine ⟨fun b0 β a w R => ?_⟩
      have hd := ev_den R hs
      simp only [Den] at hd
      rcases cnd_elim h with ⟨rfl, h⟩ | ⟨rfl, h⟩
      · exact wpIn_cond_true hd ((ihx h).run b0 β a w R)
      · exact wpIn_cond_false hd ((ihy h).run b0 β a w R)
    · exact h.elim
  | block i x ihx =>
    intro E H K h
    have h : vcC T P n ro x E H (blockK i K) := h
    refine ⟨fun b0 β a w R => wpIn_block ?_⟩
    refine wpIn_mono ((ihx h).run b0 β a w R) ?_
    rintro e a' w' ⟨β', E', H', R', X', hk⟩
    cases e <;> first
      | exact ⟨β', E', H', R', X', hk⟩
      | (rename_i j
         simp only [Exit.inBlock]
         simp only [blockK] at hk
         split at hk
         · rename_i hb
           rw [if_pos (Nat.eq_of_beq_eq_true hb)]
           exact ⟨β', E', H', R', X', hk⟩
         · rename_i hb
           rw [if_neg (Nat.ne_of_beq_eq_false hb)]
           exact ⟨β', E', H', R', X', hk⟩)
  | _ => exact fun h => h

/-! ### Loops -/
theorem wpIn_loopG {P : Program} {F : Fence} {n : Nat} {Q : Exit → Act → World → Prop} {a : Act} {w : World} {c : Code} {ι : Type} (I : ι → Act → World → Prop) (μ : ι → Nat) (i0 : ι) (h0 : I i0 a w)
    (round : ∀ i a w, I i a w → c.wpIn F n P (Exit.then (fun a' w' => ∃ i', I i' a' w' ∧ μ i' < μ i) Q) a w) : (Code.loop c).wpIn F n P Q a w := by
  intro b k cs hro hb hr
  have key : ∀ m i a w, μ i = m → I i a w →
      ∃ e a' w', Q e a' w' ∧ ArrivesIn (Machine.fenced P F) P (lone (b.atR a (.code c :: .inLoop c :: k)) cs w) b k cs e a' w' := by
    intro m
    induction m using Nat.strongRecOn with
    | _ m ih =>
      intro i a w hn hI
      obtain ⟨e, a₁, w₁, hq, harr⟩ := round i a w hI b (.inLoop c :: k) cs hro hb hr
      cases e with
      | normal =>
        obtain ⟨i', hI₁, hlt⟩ := hq
        obtain ⟨e₂, a₂, w₂, hq₂, harr₂⟩ := ih (μ i') (hn ▸ hlt) i' a₁ w₁ rfl hI₁
        exact ⟨e₂, a₂, w₂, hq₂, .of_steps (StepsIn.trans harr (.one (fenced_calm hb hr rfl) stepR_inLoop)) harr₂⟩
      | exit id => exact ⟨_, a₁, w₁, hq, .pass (x := .inLoop c) rfl (fun _ _ => .inl (by simp)) harr⟩
      | goto l => exact ⟨_, a₁, w₁, hq, .pass (x := .inLoop c) rfl (fun _ _ => .inl (by simp)) harr⟩
      | ret => exact ⟨_, a₁, w₁, hq, .pass (x := .inLoop c) rfl (fun _ _ => .inl (by simp)) harr⟩
      | panic ch => exact ⟨_, a₁, w₁, hq, .pass (x := .inLoop c) rfl (fun _ _ => .inl (by simp)) harr⟩
      | outgrown => exact ⟨_, a₁, w₁, hq, .pass (x := .inLoop c) rfl (fun _ _ => .inl (by simp)) harr⟩
  obtain ⟨e, a', w', hq, harr⟩ := key _ i0 a w rfl h0
  exact ⟨e, a', w', hq, .of_steps (.one (fenced_calm hb hr rfl) stepR_loop) harr⟩
end Go.Sy

/- Sy, part K: states that tell less; loops; functions; contracts. -/
namespace Go.Sy
open Go

/-! ### What speaks of the first boxes alone -/
mutual
def blw (m : Nat) : SV → Bool
  | .v _ => true
  | .loc i _ => Nat.blt i m
  | .clo _ a c => match blwL m a with | true => blwL m c | false => false
  | .agg l => blwL m l
  | .tup l => blwL m l
  | .ifc _ x => blw m x
  | .lst _ _ es => blwL m es
  | .ro cs _ => blwL m cs
  | .own _ _ _ _ => true
  | .optr _ _ _ => true
  | .yld i => Nat.blt i m
  | .mref i => Nat.blt i m
def blwL (m : Nat) : List SV → Bool
  | [] => true
  | x :: r => match blw m x with | true => blwL m r | false => false
end
/-- Blocks below m are told alike; the cells are the same. -/
structure Cut (m : Nat) (β β' : Gh) : Prop where
  b : ∀ i, i < m → β'.b[i]? = β.b[i]?
  g : ∀ a v, β.g a = some v → β'.g a = some v
mutual
theorem Den.cut {β β' : Gh} {m : Nat} (h : Cut m β β') : ∀ (s : SV) (y : Value), blw m s = true → Den β s y → Den β' s y
  | .v x, y, _, hd => hd
  | .loc i o, y, hb, ⟨b, h1, h2⟩ => ⟨b, by rw [h.b i (by simp [blw] at hb; exact hb)]; exact h1, h2⟩
  | .clo f a c, y, hb, ⟨xs, ys, h1, h2, h3⟩ => by
    simp only [blw] at hb
    split at hb
    · rename_i ha; exact ⟨xs, ys, DenL.cut h a xs ha h1, DenL.cut h c ys hb h2, h3⟩
    · cases hb
  | .agg l, y, hb, ⟨xs, h1, h2⟩ => ⟨xs, DenL.cut h l xs (by simpa only [blw] using hb) h1, h2⟩
  | .tup l, y, hb, ⟨xs, h1, h2⟩ => ⟨xs, DenL.cut h l xs (by simpa only [blw] using hb) h1, h2⟩
  | .ifc t x, y, hb, ⟨z, h1, h2⟩ => ⟨z, Den.cut h x z (by simpa only [blw] using hb) h1, h2⟩
  | .lst f sz es, y, hb, ⟨A, n, c, ws, h1, h2, h3⟩ => ⟨A, n, c, ws, DenL.cut h es ws (by simpa only [blw] using hb) h1, h2.mono h.g, h3⟩
  | .ro cs o, y, hb, ⟨a, ws, h1, h2, h3⟩ => ⟨a, ws, DenL.cut h cs ws (by simpa only [blw] using hb) h1, fun j u hu => h.g _ _ (h2 j u hu), h3⟩
  | .own _ _ _ _, y, _, hd => hd
  | .optr _ _ _, y, _, hd => hd
  | .yld i, y, hb, ⟨b, h1, h2⟩ => ⟨b, by rw [h.b i (by simp [blw] at hb; exact hb)]; exact h1, h2⟩
  | .mref i, y, hb, ⟨b, h1, h2⟩ => ⟨b, by rw [h.b i (by simp [blw] at hb; exact hb)]; exact h1, h2⟩
theorem DenL.cut {β β' : Gh} {m : Nat} (h : Cut m β β') : ∀ (l : List SV) (ys : List Value), blwL m l = true → DenL β l ys → DenL β' l ys
  | [], ys, _, hd => hd
  | x :: r, ys, hb, ⟨y, zs, h1, h2, h3⟩ => by
    simp only [blwL] at hb
    split at hb
    · rename_i hx; exact ⟨y, zs, Den.cut h x y hx h1, DenL.cut h r zs hb h2, h3⟩
    · cases hb
end
def blwE (m : Nat) : List (Nat × SV) → Bool
  | [] => true
  | (_, s) :: r => match blw m s with | true => blwE m r | false => false
def blwM (m : Nat) : List (Value × SV) → Bool
  | [] => true
  | (_, s) :: r => match blw m s with | true => blwM m r | false => false
def blwX (m : Nat) : Bx → Bool
  | .c cs => blwL m cs
  | .lp L => blwE m L.E
  | .df => true
  | .mp kvs => blwM m kvs
  | .gone => true
def blwB (m : Nat) : List Bx → Bool
  | [] => true
  | x :: r => match blwX m x with | true => blwB m r | false => false
def blwR (m : Nat) : List Row → Bool
  | [] => true
  | x :: r => match blwL m x.es with | true => blwR m r | false => false
theorem blwE_get {m : Nat} : ∀ {E : List (Nat × SV)} {t : Nat} {s : SV}, blwE m E = true → get E t = some s → blw m s = true
  | [], _, _, _, h => by simp [get] at h
  | (u, s') :: r, t, s, hb, h => by
    simp only [blwE] at hb
    split at hb
    · rename_i hs
      simp only [get] at h
      split at h
      · injection h with h; subst h; exact hs
      · exact blwE_get hb h
    · cases hb
theorem blwB_get {m : Nat} : ∀ {B : List Bx} {i : Nat} {x : Bx}, blwB m B = true → B[i]? = some x → blwX m x = true
  | [], _, _, _, h => by simp at h
  | y :: r, i, x, hb, h => by
    simp only [blwB] at hb
    split at hb
    · rename_i hs
      cases i with
      | zero => simp at h; subst h; exact hs
      | succ i => simp at h; exact blwB_get hb h
    · cases hb
theorem blwR_get {m : Nat} : ∀ {B : List Row} {x : Row}, blwR m B = true → x ∈ B → blwL m x.es = true
  | [], _, _, h => by simp at h
  | y :: r, x, hb, h => by
    simp only [blwR] at hb
    split at hb
    · rename_i hs
      rcases List.mem_cons.1 h with rfl | h
      · exact hs
      · exact blwR_get hb h
    · cases hb
theorem DenM.cut {β β' : Gh} {m : Nat} (h : Cut m β β') : ∀ {l : List (Value × SV)} {es : List MapEntry}, blwM m l = true → DenM β l es → DenM β' l es
  | [], _, _, hd => hd
  | (k, s) :: r, _, hb, ⟨e, zs, h1, h2, h3, h4⟩ => by
    simp only [blwM] at hb
    split at hb
    · rename_i hs; exact ⟨e, zs, h1, Den.cut h _ _ hs h2, DenM.cut h hb h3, h4⟩
    · cases hb
theorem EnvOk.cut {β β' : Gh} {m : Nat} (h : Cut m β β') {E : List (Nat × SV)} {tmps : Array Value} (hb : blwE m E = true) (k : EnvOk β E tmps) : EnvOk β' E tmps := fun t s ht =>
  let ⟨x, h1, h2⟩ := k t s ht; ⟨x, h1, Den.cut h _ _ (blwE_get hb ht) h2⟩
theorem BxOk.cut {β β' : Gh} {m : Nat} (h : Cut m β β') {w : World} {b : Nat} {x : Bx} (hb : blwX m x = true) (k : BxOk β w b x) : BxOk β' w b x := by
  cases x with
  | c cs => obtain ⟨xs, t, h1, h2⟩ := k; exact ⟨xs, t, DenL.cut h _ _ hb h1, h2⟩
  | lp L => obtain ⟨r, h1, h2, h3, h4, h5, h6, h7, h8⟩ := k; exact ⟨r, h1, h2, h3, h4, h5, h6, h7, h8.cut h hb⟩
  | df => exact k
  | mp kvs => obtain ⟨es, ck, h1, h2⟩ := k; exact ⟨es, ck, h1, h2.cut h hb⟩
  | gone => exact k
theorem RowOk.cut {β β' : Gh} {m : Nat} (h : Cut m β β') {w : World} {r : Row} (hb : blwL m r.es = true) (k : RowOk β w r) : RowOk β' w r := by
  obtain ⟨ws, h1, h2, h3, h4⟩ := k
  refine ⟨ws, DenL.cut h _ _ hb h1, h2, h3, ?_⟩
  split at h4
  · exact h4.mono h.g
  · exact h4
theorem DenD.cut {β β' : Gh} {m : Nat} (h : Cut m β β') {s : SV} {d : Deferred} (hb : blw m s = true) (k : DenD β s d) : DenD β' s d := by
  cases s <;> simp only [DenD] at k
  obtain ⟨xs, ys, h1, h2, h3⟩ := k
  simp only [blw] at hb
  split at hb
  · rename_i ha; exact ⟨xs, ys, DenL.cut h _ _ ha h1, DenL.cut h _ _ hb h2, h3⟩
  · cases hb
theorem DefOk.cut {b0 : Nat} {β β' : Gh} {m : Nat} (h : Cut m β β') {O O' : List Nat} {w : World} (hO : ∀ b, b ∉ O → b ∉ O') : ∀ {r : List Deferred} {ds : List SV}, blwL m ds = true → DefOk b0 β O w ds r → DefOk b0 β' O' w ds r
  | [], _, _, k => k
  | d :: r, ds, hb, k => by
    rcases k with ⟨mm, h1, h0, h2, h3, h4, h5⟩ | ⟨s, ds', h1, h2, h3⟩
    · exact .inl ⟨mm, h1, h0, hO _ h2, h3, h4, DefOk.cut h hO hb h5⟩
    · subst h1
      simp only [blwL] at hb
      split at hb
      · rename_i hs; exact .inr ⟨s, ds', rfl, h2.cut h hs, DefOk.cut h hO hb h3⟩
      · cases hb

/-! ### A value told in another way -/
def impB : Bool → Bool → Bool
  | false, _ => true
  | true, f => f
mutual
def leP : SV → SV → Prop
  | .v (.slice none 0 0), t => match t with
    | .lst _ _ es => es = []
    | .own _ A n c => A = none ∧ n = 0 ∧ c = 0
    | t => SV.v (.slice none 0 0) = t
  | .lst f sz es, t => match t with
    | .lst f' sz' es' => impB f' f = true ∧ sz = sz' ∧ es = es'
    | t => SV.lst f sz es = t
  | .agg l, t => match t with
    | .agg l' => lePL l l'
    | t => SV.agg l = t
  | .tup l, t => match t with
    | .tup l' => lePL l l'
    | t => SV.tup l = t
  | s, t => s = t
def lePL : List SV → List SV → Prop
  | [], t => t = []
  | s :: r, t => match t with
    | [] => False
    | s' :: r' => leP s s' ∧ lePL r r'
end
theorem slOk_nil (g : Addr → Option Value) (full : Bool) (sz : Nat) : SlOk g full sz none 0 0 [] :=
  ⟨rfl, Nat.le_refl _, Nat.zero_le _, fun _ => ⟨rfl, rfl⟩, fun _ => rfl, by simp, by simp [cellsL], fun a h => by cases h⟩
mutual
theorem leP_den {β : Gh} : ∀ (s t : SV) (y : Value), leP s t → Den β s y → Den β t y
  | s, t, y, h, hd => by
    cases s with
    | v x =>
      unfold leP at h
      split at h
      · rename_i heq
        injection heq with heq
        subst heq
        simp only [Den] at hd
        subst hd
        split at h
        · subst h; exact ⟨none, 0, 0, [], rfl, slOk_nil _ _ _, rfl⟩
        · obtain ⟨rfl, rfl, rfl⟩ := h; rfl
        · subst h; rfl
      all_goals first
        | (rename_i heq; cases heq)
        | (subst h; exact hd)
    | lst f sz es =>
      simp only [leP] at h
      split at h
      · obtain ⟨h1, rfl, rfl⟩ := h
        obtain ⟨A, n, c, ws, g1, g2, g3⟩ := hd
        rename_i f'
        exact ⟨A, n, c, ws, g1, ⟨g2.len, g2.le, g2.mx, g2.nil, fun hf => g2.full (by subst hf; simpa [impB] using h1), g2.sz, g2.one, g2.mem⟩, g3⟩
      · subst h; exact hd
    | agg l =>
      simp only [leP] at h
      split at h
      · obtain ⟨xs, h1, h2⟩ := hd
        exact ⟨xs, lePL_den l _ xs h h1, h2⟩
      · subst h; exact hd
    | tup l =>
      simp only [leP] at h
      split at h
      · obtain ⟨xs, h1, h2⟩ := hd
        exact ⟨xs, lePL_den l _ xs h h1, h2⟩
      · subst h; exact hd
    | _ => simp only [leP] at h; subst h; exact hd
theorem lePL_den {β : Gh} : ∀ (l m : List SV) (ys : List Value), lePL l m → DenL β l ys → DenL β m ys
  | [], m, ys, h, hd => by simp only [lePL] at h; subst h; exact hd
  | s :: r, m, ys, h, hd => by
    simp only [lePL] at h
    split at h
    · exact h.elim
    · obtain ⟨y, zs, h1, h2, h3⟩ := hd
      exact ⟨y, zs, leP_den s _ y h.1 h1, lePL_den r _ zs h.2 h2, h3⟩
end
theorem lePL_refl : ∀ l : List SV, (∀ s ∈ l, leP s s) → lePL l l
  | [], _ => rfl
  | s :: r, h => ⟨h s (by simp), lePL_refl r fun x hx => h x (List.mem_cons_of_mem _ hx)⟩

/-! ### A state that tells less -/
def subE : List (Nat × SV) → List (Nat × SV) → Prop
  | [], _ => True
  | (t, s) :: r, E' => match get E' t with
    | some s' => leP s' s ∧ subE r E'
    | none => False
theorem subE_ok {β : Gh} {tmps : Array Value} : ∀ {E E' : List (Nat × SV)}, subE E E' → EnvOk β E' tmps → EnvOk β E tmps
  | [], _, _, _, _, _, h => by simp [get] at h
  | (u, s') :: r, E', hs, k, t, s, h => by
    simp only [subE] at hs
    split at hs
    case h_2 => exact hs.elim
    rename_i s2 hs2
    simp only [get] at h
    split at h
    · rename_i hb
      have hb := Nat.eq_of_beq_eq_true hb
      subst hb
      injection h with h; subst h
      obtain ⟨x, hx, hd⟩ := k _ _ hs2
      exact ⟨x, hx, leP_den _ _ _ hs.1 hd⟩
    · exact subE_ok hs.2 k t s h
def leX : Bx → Bx → Prop
  | .c l, y => match y with | .c l' => lePL l l' | _ => False
  | x, y => x = y
def subB : List Bx → List Bx → Prop
  | [], _ => True
  | x :: r, B => match B with
    | [] => False
    | y :: r' => leX y x ∧ subB r r'
theorem subB_get : ∀ {B B' : List Bx}, subB B B' → ∀ {i : Nat} {x : Bx}, B[i]? = some x → ∃ y, B'[i]? = some y ∧ leX y x
  | [], _, _, i, x, h => by simp at h
  | a :: r, B', hs, i, x, h => by
    simp only [subB] at hs
    split at hs
    case h_1 => exact hs.elim
    rename_i y r'
    cases i with
    | zero => simp at h; subst h; exact ⟨y, rfl, hs.1⟩
    | succ i => simp at h; obtain ⟨z, h1, h2⟩ := subB_get hs.2 h; exact ⟨z, by simpa using h1, h2⟩
theorem leX_ok {β : Gh} {w : World} {b : Nat} {x y : Bx} (h : leX y x) (k : BxOk β w b y) : BxOk β w b x := by
  cases y <;> simp only [leX] at h
  · split at h
    · obtain ⟨xs, t, h1, h2⟩ := k
      exact ⟨xs, t, lePL_den _ _ _ h h1, h2⟩
    · exact h.elim
  all_goals (subst h; exact k)
/-- The first rows, others forgotten. -/
def preR : List Row → List Row → Prop
  | [], _ => True
  | a :: r, B => match B with
    | [] => False
    | b :: r' => a = b ∧ preR r r'
theorem preR_eq : ∀ {A B : List Row}, preR A B → A <+: B
  | [], _, _ => List.nil_prefix
  | a :: r, B, h => by
    simp only [preR] at h
    split at h
    · exact h.elim
    · obtain ⟨rfl, h⟩ := h
      exact (List.prefix_cons_inj a).2 (preR_eq h)
def lenB : List Bx → Nat
  | [] => 0
  | _ :: r => lenB r + 1
theorem lenB_eq : ∀ l : List Bx, lenB l = l.length
  | [] => rfl
  | _ :: r => by rw [lenB, lenB_eq r]; rfl
structure Back (E : Env) (J : Hp) (E' : Env) (H' : Hp) : Prop where
  env : subE E.ts E'.ts
  ds : E.ds = E'.ds
  rows : preR J.rows H'.rows
  boxes : subB J.boxes H'.boxes
  nb : J.nb = lenB J.boxes
  cut : (J.nb = H'.nb) ∨ (blwE J.nb E.ts = true ∧ blwL J.nb E.ds = true ∧ blwB J.nb J.boxes = true ∧ blwR J.nb J.rows = true)
theorem subB_len : ∀ {B B' : List Bx}, subB B B' → B.length ≤ B'.length
  | [], _, _ => Nat.zero_le _
  | a :: r, B', h => by
    simp only [subB] at h
    split at h
    · exact h.elim
    · simpa using subB_len h.2
/-- Boxes behind the first m are forgotten. -/
def Gh.cut (β : Gh) (m : Nat) : Gh := ⟨β.b.take m, β.g⟩
theorem Gh.cut_cut (β : Gh) (m : Nat) : Cut m β (β.cut m) := ⟨fun i hi => by simp only [Gh.cut]; rw [List.getElem?_take, if_pos hi], fun _ _ h => h⟩
theorem RepA.back {n b0 : Nat} {β : Gh} {E' : Env} {H' : Hp} {a : Act} {w : World} (R : RepA n b0 β E' H' a w) {E : Env} {J : Hp} (B : Back E J E' H')
    {β0 : Gh} {H0 : Hp} {w0 : World} (X : Ext β0 H0 w0 β H' w) (hnb : β0.b.length ≤ J.nb) :
    RepA n b0 (β.cut J.nb) E J a w ∧ Ext β0 H0 w0 (β.cut J.nb) J w := by
  have hjl : J.nb = J.boxes.length := by rw [B.nb, lenB_eq]
  have hle : J.nb ≤ H'.nb := by rw [hjl, R.rep.nb]; exact subB_len B.boxes
  have hpr := preR_eq B.rows
  have hown : ∀ b ∈ owned (β.cut J.nb) J, b ∈ owned β H' := by
    intro b hb
    simp only [owned, Gh.cut, List.mem_append] at hb ⊢
    rcases hb with hb | hb
    · exact .inl (List.mem_of_mem_take hb)
    · obtain ⟨r, hr, hrb⟩ := List.mem_filterMap.1 hb
      exact .inr (List.mem_filterMap.2 ⟨r, hpr.subset hr, hrb⟩)
  have hnd : (owned (β.cut J.nb) J).Nodup := by
    have := R.rep.nd
    simp only [owned] at this ⊢
    exact this.sublist ((List.take_sublist _ _).append (hpr.sublist.filterMap _))
  have hpre : Gle β0 (β.cut J.nb) := ⟨by simp only [Gh.cut]; rw [List.prefix_take_iff]; exact ⟨X.pre.1, hnb⟩, X.pre.2⟩
  have X' : Ext β0 H0 w0 (β.cut J.nb) J w := ⟨hpre, X.fr, fun b hb => X.own b (hown b hb), X.gn⟩
  have hgg : ∀ a v, (β.cut J.nb).g a = some v → w.cell? a = some v ∧ a.block ∉ owned (β.cut J.nb) J := fun a v h => ⟨(R.rep.g a v h).1, fun hm => (R.rep.g a v h).2 (hown _ hm)⟩
  have hlen : (β.cut J.nb).b.length = J.boxes.length := by
    simp only [Gh.cut, List.length_take]
    rw [R.rep.len, ← R.rep.nb]; omega
  have hget : ∀ (i b : Nat), (β.cut J.nb).b[i]? = some b → β.b[i]? = some b := by
    intro i b h
    simp only [Gh.cut, List.getElem?_take] at h
    split at h
    · exact h
    · cases h
  have hbox : ∀ (i : Nat) (x : Bx) (b : Nat), J.boxes[i]? = some x → (β.cut J.nb).b[i]? = some b → BxOk β w b x := by
    intro i x b hi hb
    obtain ⟨y, hy, hl⟩ := subB_get B.boxes hi
    exact leX_ok hl (R.rep.box i y b hy (hget i b hb))
  have hrow : ∀ r ∈ J.rows, RowOk β w r := fun r hr => R.rep.row r (hpr.subset hr)
  have henv := subE_ok B.env R.env
  have hO : ∀ b, b ∉ owned β H' → b ∉ owned (β.cut J.nb) J := fun b hb hm => hb (hown b hm)
  rcases B.cut with h1 | ⟨h1, h2, h3, h4⟩
  · have hβ : β.cut J.nb = β := by
      obtain ⟨bb, g⟩ := β
      simp only [Gh.cut]
      rw [List.take_of_length_le]
      have := R.rep.len
      have := R.rep.nb
      simp only at *
      omega
    rw [hβ] at hgg hnd X' hlen hbox hO ⊢
    exact ⟨⟨⟨hlen, hjl, hbox, hrow, hnd, hgg⟩, R.size, by rw [B.ds]; exact R.defs.mono (Gle.refl _) (Nat.le_refl _) (fun b _ hb => ⟨hO b hb, rfl⟩), henv⟩, X'⟩
  · have hc := Gh.cut_cut β J.nb
    exact ⟨⟨⟨hlen, hjl, fun i x b hi hb => BxOk.cut hc (blwB_get h3 hi) (hbox i x b hi hb), fun r hr => RowOk.cut hc (blwR_get h4 hr) (hrow r hr), hnd, hgg⟩, R.size, by rw [B.ds]; exact R.defs.cut hc hO (by rw [← B.ds]; exact h2), EnvOk.cut hc h1 henv⟩, X'⟩
end Go.Sy

/- Sy, part L: loops by invariants; functions; contracts. -/
namespace Go.Sy
open Go

theorem Cd.loop {P : Program} {n : Nat} {ro : Option Nat} {c : Code} {E : Env} {H : Hp} {K : Exit → Env → Hp → Prop} {ι : Type} (I : ι → Env) (J : ι → Hp) (μ : ι → Nat) (i0 : ι)
    (h0 : Back (I i0) (J i0) E H) (hnb : ∀ i, (J i).nb = H.nb)
    (step : ∀ i, Cd P n ro c (I i) (J i) fun e E' H' => match e with
      | .normal => ∃ i', μ i' < μ i ∧ Back (I i') (J i') E' H'
      | e => K e E' H') : Cd P n ro (.loop c) E H K := by
  refine ⟨fun b0 β a w R => ?_⟩
  obtain ⟨R0, X0⟩ := R.back h0 (Ext.refl β H w) (by rw [hnb, R.rep.nb, R.rep.len]; exact Nat.le_refl _)
  refine wpIn_loopG (fun (p : ι × Gh) a' w' => RepA n b0 p.2 (I p.1) (J p.1) a' w' ∧ Ext β H w p.2 (J p.1) w') (fun p => μ p.1) (i0, _) ⟨R0, X0⟩ ?_
  rintro ⟨i, β1⟩ a1 w1 ⟨R1, X1⟩
  simp only at R1 X1
  refine wpIn_mono ((step i).run b0 β1 a1 w1 R1) ?_
  rintro e a2 w2 ⟨β2, E2, H2, R2, X2, hk⟩
  cases e with
  | normal =>
    obtain ⟨i', hlt, hb⟩ := hk
    have X12 := X1.trans X2
    obtain ⟨R3, X3⟩ := R2.back hb X12 (by rw [hnb, R.rep.nb, R.rep.len]; exact Nat.le_refl _)
    exact ⟨(i', _), ⟨R3, X3⟩, hlt⟩
  | exit j => exact ⟨β2, E2, H2, R2, X1.trans X2, hk⟩
  | goto j => exact ⟨β2, E2, H2, R2, X1.trans X2, hk⟩
  | ret => exact ⟨β2, E2, H2, R2, X1.trans X2, hk⟩
  | panic ch => exact ⟨β2, E2, H2, R2, X1.trans X2, hk⟩
  | outgrown => exact ⟨β2, E2, H2, R2, X1.trans X2, hk⟩
/-- Round by round. -/
noncomputable def rounds (T : List TI) (P : Program) (n : Nat) (ro : Option Nat) (c : Code) (K : Exit → Env → Hp → Prop) (m : Nat) : Env → Hp → Prop :=
  Nat.rec (motive := fun _ => Env → Hp → Prop) (fun _ _ => False) (fun _ next E H => vcC T P n ro c E H (seqK (fun E H _ => next E H) K)) m
theorem rounds_succ' {T : List TI} {P : Program} {n : Nat} {ro : Option Nat} {c : Code} {K : Exit → Env → Hp → Prop} {m : Nat} {E : Env} {H : Hp} :
    rounds T P n ro c K (m + 1) E H = vcC T P n ro c E H (seqK (fun E H _ => rounds T P n ro c K m E H) K) := rfl
theorem Cd.unroll {P : Program} {T : List TI} (hT : TabOk T P) {n : Nat} {ro : Option Nat} {c : Code} {K : Exit → Env → Hp → Prop} (m : Nat) {E : Env} {H : Hp} (h : rounds T P n ro c K m E H) : Cd P n ro (.loop c) E H K := by
  refine ⟨fun b0 β a w R => ?_⟩
  refine wpIn_loopG (fun (p : Nat) a' w' => ∃ β' E' H', RepA n b0 β' E' H' a' w' ∧ Ext β H w β' H' w' ∧ rounds T P n ro c K p E' H') (fun p => p) m ⟨β, E, H, R, Ext.refl _ _ _, h⟩ ?_
  rintro p a1 w1 ⟨β1, E1, H1, R1, X1, h1⟩
  cases p with
  | zero => exact h1.elim
  | succ p =>
    rw [rounds_succ'] at h1
    refine wpIn_mono ((Cd.of_vc hT c h1).run b0 β1 a1 w1 R1) ?_
    rintro e a2 w2 ⟨β2, E2, H2, R2, X2, hk⟩
    cases e with
    | normal => exact ⟨p, ⟨β2, E2, H2, R2, X1.trans X2, hk⟩, Nat.lt_succ_self _⟩
    | exit j => exact ⟨β2, E2, H2, R2, X1.trans X2, hk⟩
    | goto j => exact ⟨β2, E2, H2, R2, X1.trans X2, hk⟩
    | ret => exact ⟨β2, E2, H2, R2, X1.trans X2, hk⟩
    | panic ch => exact ⟨β2, E2, H2, R2, X1.trans X2, hk⟩
    | outgrown => exact ⟨β2, E2, H2, R2, X1.trans X2, hk⟩
/-- A loop by an invariant, each round by its own conditions. -/
theorem Cd.loopV {P : Program} {T : List TI} (hT : TabOk T P) {n : Nat} {ro : Option Nat} {c : Code} {E : Env} {H : Hp} {K : Exit → Env → Hp → Prop} {ι : Type} (I : ι → Env) (J : ι → Hp) (μ : ι → Nat) (i0 : ι)
    (h0 : Back (I i0) (J i0) E H) (hnb : ∀ i, (J i).nb = H.nb)
    (step : ∀ i, vcC T P n ro c (I i) (J i) fun e E' H' => match e with
      | .normal => ∃ i', μ i' < μ i ∧ Back (I i') (J i') E' H'
      | e => K e E' H') : Cd P n ro (.loop c) E H K :=
  Cd.loop I J μ i0 h0 hnb fun i => Cd.of_vc hT c (step i)
/-- A state may be told in another way, ahead of any code. -/
theorem Cd.back {P : Program} {n : Nat} {ro : Option Nat} {c : Code} {E E' : Env} {H J : Hp} {K : Exit → Env → Hp → Prop} (h : Back E' J E H) (hnb : J.nb = H.nb) (k : Cd P n ro c E' J K) : Cd P n ro c E H K :=
  ⟨fun b0 β a w R => by
    obtain ⟨R0, X0⟩ := R.back h (Ext.refl β H w) (by rw [hnb, R.rep.nb, R.rep.len]; exact Nat.le_refl _)
    exact wpIn_mono (k.run b0 _ a w R0) fun _ _ _ ⟨β2, E2, H2, R2, X2, h2⟩ => ⟨β2, E2, H2, R2, X0.trans X2, h2⟩⟩
/-- A row that is nothing yet. -/
theorem Rep.nilRow {β : Gh} {H : Hp} {w : World} (R : Rep β H w) (e sz : Nat) : Rep β { H with rows := H.rows ++ [⟨none, 0, 0, e, sz, [], false⟩] } w ∧ Ext β H w β { H with rows := H.rows ++ [⟨none, 0, 0, e, sz, [], false⟩] } w :=
  R.rowAdd (r' := ⟨none, 0, 0, e, sz, [], false⟩) ⟨[], rfl, by simp, rfl, ⟨World.ownsRow_nil w 0 e sz, by simp [cellsL]⟩⟩ ⟨rfl, rfl, rfl, Nat.le_refl _⟩ (fun _ _ => rfl) (fun b h => by simp [Row.blk] at h)
theorem Cd.nilRow {P : Program} {n : Nat} {ro : Option Nat} {c : Code} {E : Env} {H : Hp} {K : Exit → Env → Hp → Prop} (e sz : Nat) (h : addRow H ⟨none, 0, 0, e, sz, [], false⟩ fun _ H' => Cd P n ro c E H' K) : Cd P n ro c E H K := by
  replace h := addRow_eq h
  refine ⟨fun b0 β a w R => ?_⟩
  obtain ⟨R', X'⟩ := R.rep.nilRow e sz
  exact wpIn_mono (h.run b0 β a w ⟨R', R.size, R.defs.ext X', R.env⟩) fun _ _ _ ⟨β2, E2, H2, R2, X2, h2⟩ => ⟨β2, E2, H2, R2, X'.trans X2, h2⟩

/-! ### Functions -/
def resL (T : List TI) : List ResultVar → Env → Hp → (List SV → Prop) → Prop
  | [], _, _, k => k []
  | x :: r, E, H, k => match x with
    | .tmp t => nd (get E.ts t) fun s => resL T r E H fun l => k (s :: l)
    | .cell a t => nd (getT T t) fun i => nd (get E.ts a) fun s => ldS H i s fun s _ => resL T r E H fun l => k (s :: l)
def pack (l : List SV) : SV :=
  match l with
  | [s] => s
  | l => .tup l
def argsTs : Nat → List SV → List (Nat × SV)
  | _, [] => []
  | i, s :: r => (i, s) :: argsTs (i + 1) r
def resOne (tmps : Array Value) : ResultVar → Sem Value
  | .tmp t => pure (tmps.getD t undef)
  | .cell b t => do loadVar t (← asAddr (tmps.getD b undef))
theorem results_eq (fn : Func) (tmps : Array Value) : results fn tmps = (do let vs ← fn.results.mapM (resOne tmps); pure (if h : vs.size = 1 then vs[0] else .tuple vs) : Sem Value) := by
  have : (fun (x : ResultVar) => match x with
    | .tmp t => (pure (tmps.getD t undef) : Sem Value)
    | .cell a t => do loadVar t (← asAddr (tmps.getD a undef))) = resOne tmps := by
    funext x
    cases x <;> rfl
  unfold results
  rw [← this]
  rfl
section
variable {P : Program}
theorem resL_run {T : List TI} (hT : TabOk T P) {n b0 : Nat} {β : Gh} {E : Env} {H : Hp} {a : Act} {w : World} (R : RepA n b0 β E H a w) : ∀ (l : List ResultVar) (k : List SV → Prop), resL T l E H k →
    ∃ ss ys, k ss ∧ DenL β ss ys ∧ (l.mapM (resOne a.tmps)).run P w = .ok ys w
  | [], k, h => ⟨[], [], h, rfl, rfl⟩
  | x :: r, k, h => by
    unfold resL at h
    split at h
    · rename_i t
      obtain ⟨s, hs, h⟩ := nd_elim h
      obtain ⟨ss, ys, h1, h2, h3⟩ := resL_run hT R r _ h
      obtain ⟨y, hy, hd⟩ := R.env t s hs
      refine ⟨s :: ss, y :: ys, h1, ⟨y, ys, hd, h2, rfl⟩, ?_⟩
      simp only [List.mapM_cons, resOne, Sem.run_bind, Sem.run_pure, Result.andThen_ok]
      rw [h3]
      simp [hy]
    · rename_i b t
      obtain ⟨i, hi, h⟩ := nd_elim h
      obtain ⟨s, hs, h⟩ := nd_elim h
      obtain ⟨ti⟩ := hT.get hi
      obtain ⟨y, hy, hd⟩ := R.env b s hs
      obtain ⟨z, s', hz, hdz, h⟩ := ldS_run R.rep ti hd h
      obtain ⟨ss, ys, h1, h2, h3⟩ := resL_run hT R r _ h
      refine ⟨s' :: ss, z :: ys, h1, ⟨z, ys, hdz, h2, rfl⟩, ?_⟩
      have hyy : a.tmps.getD b undef = y := by simp [hy]
      have hz' : (do loadVar t (← asAddr y) : Sem Value).run P w = .ok z w := by
        have : ∃ ad, y = .pointer (some ad) := by
          unfold Instr.loadAt Instr.sureAddr at hz
          cases y with
          | pointer p => cases p with
            | none => simp [stuck, Sem.run] at hz
            | some ad => exact ⟨ad, rfl⟩
          | _ => simp [stuck, Sem.run] at hz
        obtain ⟨ad, rfl⟩ := this
        simpa [Instr.loadAt, Instr.sureAddr, asAddr] using hz
      simp only [List.mapM_cons, resOne, Sem.run_bind, hyy]
      simp only [Sem.run_bind] at hz'
      rw [hz']
      simp only [Result.andThen_ok]
      rw [h3]
      simp
theorem argsTs_get : ∀ {l : List SV} {i t : Nat} {s : SV}, get (argsTs i l) t = some s → i ≤ t ∧ l[t - i]? = some s
  | [], i, t, s, h => by simp [argsTs, get] at h
  | x :: r, i, t, s, h => by
    simp only [argsTs, get] at h
    split at h
    · rename_i hb
      have hb := Nat.eq_of_beq_eq_true hb
      injection h with h; subst h; subst hb
      exact ⟨Nat.le_refl _, by simp⟩
    · rename_i hb
      have hb := Nat.ne_of_beq_eq_false hb
      obtain ⟨h1, h2⟩ := argsTs_get h
      refine ⟨by omega, ?_⟩
      rw [show t - i = (t - (i + 1)) + 1 by omega]
      simpa using h2
/-- Marks of loops over functions are taken in, one by one. -/
theorem leaves_marks {fn : Func} {n b0 : Nat} {E : Env} {H : Hp} {β : Gh} {tmps : Array Value} {Φ : Ending → World → Prop} (hn : tmps.size = n) (henv : EnvOk β E.ts tmps) : ∀ (ds : List Deferred) (w : World), Rep β H w → DefOk b0 β (owned β H) w [] ds →
    (∀ w', Rep β H w' → w'.os = w.os → w'.tape = w.tape → w'.output = w.output → w'.heap.size = w.heap.size → (∀ k, k < b0 → w'.heap[k]? = w.heap[k]?) → (∀ k, k ∈ owned β H → w'.heap[k]? = w.heap[k]?) → ∃ v, (results fn tmps).run P w' = .ok v w' ∧ Φ (.returned v) w') →
    LeavesInM (W0 none) 0 P fn tmps Φ ds .returning w
  | [], w, R, hd, h => by
    obtain ⟨v, h1, h2⟩ := h w R rfl rfl rfl rfl (fun _ _ => rfl) (fun _ _ => rfl)
    exact ⟨v, h1, h2⟩
  | d :: r, w, R, hd, h => by
    rcases hd with ⟨m, rfl, h0, h2, h3, h4, h5⟩ | ⟨s, ds', h1, _⟩
    · have hlt := (Array.getElem?_eq_some_iff.1 h3).1
      have hoth : ∀ k, k ≠ m → (w.heap.setIfInBounds m (.deferred none))[k]? = w.heap[k]? := fun k hk => by simp [Ne.symm hk]
      have hne : ∀ {b}, b ∈ owned β H → b ≠ m := fun hb e => h2 (e ▸ hb)
      have R' : Rep β H { w with heap := w.heap.setIfInBounds m (.deferred none) } := by
        refine ⟨R.len, R.nb, fun i x b hi hb => ?_, fun r hr => ?_, R.nd, fun a v hg => ?_⟩
        · exact (R.box i x b hi hb).mono (Gle.refl _) (by simp) (hoth b (hne (List.mem_append_left _ (List.mem_of_getElem? hb))))
        · exact (R.row r hr).mono (Gle.refl _) (by simp) fun b hb => hoth b (hne (List.mem_append_right _ (List.mem_filterMap.2 ⟨r, hr, hb⟩)))
        · obtain ⟨g1, g2⟩ := R.g a v hg
          refine ⟨?_, g2⟩
          have : a.block ≠ m := by
            intro e
            unfold World.cell? at g1
            rw [e, h3] at g1
            cases g1
          rw [World.cell?_of_block (w := w) (hoth a.block this)]; exact g1
      have D' : DefOk b0 β (owned β H) { w with heap := w.heap.setIfInBounds m (.deferred none) } [] r := by
        have : ∀ {r : List Deferred} {ds : List SV}, markOf m ∉ r → DefOk b0 β (owned β H) w ds r → DefOk b0 β (owned β H) { w with heap := w.heap.setIfInBounds m (.deferred none) } ds r := by
          intro r
          induction r with
          | nil => exact fun _ k => ⟨k.1, by simpa using k.2⟩
          | cons d r ih =>
            intro ds hm k
            have hm' : markOf m ∉ r := fun h => hm (List.mem_cons_of_mem _ h)
            rcases k with ⟨m2, rfl, k0, k2, k3, k4, k5⟩ | ⟨s, ds', k1, k2, k3⟩
            · have hmm : m2 ≠ m := fun e => hm (by rw [e]; exact List.mem_cons_self ..)
              exact .inl ⟨m2, rfl, k0, k2, (hoth m2 hmm).trans k3, k4, ih hm' k5⟩
            · exact .inr ⟨s, ds', k1, k2, ih hm' k3⟩
        exact this h4 h5
      refine ⟨by simp, .inl ⟨m, _, rfl, ?_, leaves_marks hn henv r _ R' D' fun w' R2 e1 e2 e3 e4 e5 e6 => ?_⟩⟩
      · simp [Instr.takeDeferred, getObj, setObj, Sem.run, h3, Sem.run_pure]
      · refine h w' R2 e1 e2 e3 (by rw [e4]; simp) (fun k hk => (e5 k hk).trans (hoth k (by omega))) (fun k hk => (e6 k hk).trans (hoth k (hne hk)))
    · cases h1
end
end Go.Sy
namespace Go.Sy
open Go

def bodyOf (fn : Func) : Code := match fn.body with | some c => c | none => .skip
def okFn (fn : Func) (m : Nat) : Bool := fn.body.isSome && !(fn.name == "runtime.NumGoroutine") && Nat.ble m fn.ntmps
/-- What is asked where a body is left. -/
def retK (T : List TI) (fn : Func) (Q : SV → Hp → Prop) : Exit → Env → Hp → Prop := fun e E' H' => match e with
  | .normal => match E'.ds with | [] => resL T fn.results.toList E' H' fun l => Q (pack l) H' | _ :: _ => False
  | .ret => match E'.ds with | [] => resL T fn.results.toList E' H' fun l => Q (pack l) H' | _ :: _ => False
  | _ => False
section
variable {P : Program}
theorem res_fin {T : List TI} (hT : TabOk T P) {fn : Func} {n b0 : Nat} {β : Gh} {E : Env} {H : Hp} {a : Act} {w : World} (R : RepA n b0 β E H a w) {Q : SV → Prop} (h : resL T fn.results.toList E H fun l => Q (pack l)) :
    ∃ v r, (results fn a.tmps).run P w = .ok v w ∧ Den β r v ∧ Q r := by
  obtain ⟨ss, ys, h1, h2, h3⟩ := resL_run hT R fn.results.toList _ h
  refine ⟨if h : ys.toArray.size = 1 then ys.toArray[0] else .tuple ys.toArray, pack ss, ?_, ?_, h1⟩
  · rw [results_eq, Sem.run_bind, Array.mapM_eq_mapM_toList]
    simp only [Sem.run_map, Sem.run_bind, h3]
    rfl
  · have hl := h2.length
    unfold pack
    split
    · rename_i s
      obtain ⟨y, zs, h4, h5, rfl⟩ := h2
      simp only [DenL] at h5
      subst h5
      simpa using h4
    · rename_i hne
      rw [dif_neg]
      · exact ⟨ys, h2, rfl⟩
      · intro h1
        have : ss.length = 1 := by rw [← hl]; simpa using h1
        obtain ⟨s, rfl⟩ := List.length_eq_one_iff.1 this
        exact hne s rfl
theorem Tr.of_cd {T : List TI} (hT : TabOk T P) {f : FuncId} {fn : Func} {args : List SV} {H : Hp} {Q : SV → Hp → Prop} (hf : P.funcs[f]? = some fn) (hok : okFn fn args.length = true)
    (h : Cd P fn.ntmps none (bodyOf fn) ⟨argsTs 0 args, []⟩ H (retK T fn Q)) : Tr P f args H Q := by
  simp only [okFn, Bool.and_eq_true, Bool.not_eq_true'] at hok
  obtain ⟨⟨h1, h2⟩, h3⟩ := hok
  obtain ⟨c, hc⟩ := Option.isSome_iff_exists.1 h1
  have hbc : bodyOf fn = c := by simp [bodyOf, hc]
  rw [hbc] at h
  refine ⟨fun β w xs R hd => .inl ⟨⟨fn, hf, h1, h2⟩, ?_⟩⟩
  have hlen : args.length ≤ fn.ntmps := Nat.le_of_ble_eq_true h3
  have hxl := hd.length
  rw [← callsIn_W0 (ro := none) (n := 0)]
  refine callsIn_of_wp_marks hf hc trivial ?_
  have RA : RepA fn.ntmps w.heap.size β ⟨argsTs 0 args, []⟩ H { tmps := xs.toArray ++ Array.replicate (fn.ntmps - xs.toArray.size) undef, defers := [] } w := by
    refine ⟨R, by simp; omega, ⟨rfl, Nat.le_refl _⟩, fun t s ht => ?_⟩
    obtain ⟨_, h1⟩ := argsTs_get ht
    obtain ⟨y, hy, hdy⟩ := hd.get h1
    refine ⟨y, ?_, hdy⟩
    rw [Array.getElem?_append_left]
    · simpa using hy
    · have := (List.getElem?_eq_some_iff.1 hy).1; simpa using this
  refine wpIn_mono (h.run _ β _ w RA) ?_
  rintro e a' w' ⟨β', E', H', R', X', hk⟩
  have fin : (match E'.ds with | [] => resL T fn.results.toList E' H' fun l => Q (pack l) H' | _ :: _ => False) →
      LeavesInM (W0 none) 0 P fn a'.tmps (fun e w' => ∃ x, e = .returned x ∧ ∃ r H' β', Den β' r x ∧ Rep β' H' w' ∧ Ext β H w β' H' w' ∧ Q r H') a'.defers .returning w' := by
    intro h
    split at h
    case h_2 => exact h.elim
    rename_i hds
    have hdefs := R'.defs
    rw [hds] at hdefs
    refine leaves_marks R'.size R'.env a'.defers w' R'.rep hdefs fun w2 R2 e1 e2 e3 e4 e5 e6 => ?_
    have RA2 : RepA fn.ntmps w.heap.size β' ⟨E'.ts, []⟩ H' { a' with defers := [] } w2 := ⟨R2, R'.size, ⟨rfl, by rw [e4]; exact R'.defs.le⟩, R'.env⟩
    obtain ⟨v, r, g1, g2, g3⟩ := res_fin (E := ⟨E'.ts, []⟩) hT RA2 (Q := fun r => Q r H') (by
      have : E' = ⟨E'.ts, []⟩ := by cases E'; simp only at hds; rw [hds]
      rw [← this]; exact h)
    refine ⟨v, g1, v, rfl, r, H', β', g2, R2, ⟨X'.pre, ⟨e1.trans X'.fr.os, e2.trans X'.fr.tape, e3.trans X'.fr.output, by rw [e4]; exact X'.fr.size, fun k hk hn => (e5 k hk).trans (X'.fr.block k hk hn)⟩, X'.own, X'.gn⟩, g3⟩
  cases e with
  | normal => exact fin hk
  | ret => exact fin hk
  | _ => exact hk.elim
theorem Tr.of_body {T : List TI} (hT : TabOk T P) {f : FuncId} {fn : Func} {args : List SV} {H : Hp} {Q : SV → Hp → Prop} (hf : P.funcs[f]? = some fn) (hok : okFn fn args.length = true)
    (h : vcC T P fn.ntmps none (bodyOf fn) ⟨argsTs 0 args, []⟩ H (retK T fn Q)) : Tr P f args H Q := Tr.of_cd hT hf hok (Cd.of_vc hT _ h)
end

/-! ### What is handed over where a call ends -/
mutual
/-- A value that is told in another way; rows are handed over. -/
def puP (H : Hp) : SV → SV → Prop
  | .v (.slice none 0 0), t => match t with
    | .lst _ _ es => es = []
    | t => SV.v (.slice none 0 0) = t
  | .lst f sz es, t => match t with
    | .lst f' sz' es' => impB f' f = true ∧ sz = sz' ∧ es = es'
    | t => SV.lst f sz es = t
  | .own ri A n c, t => match t with
    | .lst f sz es => f = false ∧ match nth H.rows ri with
      | some r => (r.A = A ∧ r.n = n ∧ r.c = c) ∧ r.sz = sz ∧ r.es = es
      | none => False
    | t => SV.own ri A n c = t
  | .agg l, t => match t with
    | .agg l' => puPL H l l'
    | t => SV.agg l = t
  | .tup l, t => match t with
    | .tup l' => puPL H l l'
    | t => SV.tup l = t
  | s, t => s = t
def puPL (H : Hp) : List SV → List SV → Prop
  | [], t => t = []
  | s :: r, t => match t with
    | [] => False
    | s' :: r' => puP H s s' ∧ puPL H r r'
end
/-- All rows are handed over: what is known then. -/
noncomputable def pubG (β : Gh) (H : Hp) (w : World) : Addr → Option Value := fun a => if a.block ∈ H.rows.filterMap Row.blk then w.cell? a else β.g a
section
variable {β : Gh} {H : Hp} {w : World}
theorem pubG_old (R : Rep β H w) : ∀ a v, β.g a = some v → pubG β H w a = some v := by
  intro a v h
  unfold pubG
  rw [if_neg fun hm => (R.g a v h).2 (List.mem_append_right _ hm)]; exact h
theorem pubG_cell (R : Rep β H w) : ∀ a v, pubG β H w a = some v → w.cell? a = some v := by
  intro a v h
  unfold pubG at h
  split at h
  · exact h
  · exact (R.g a v h).1
theorem row_pub (R : Rep β H w) {r : Row} (hr : r ∈ H.rows) : ∃ ws, DenL β r.es ws ∧ SlOk (pubG β H w) false r.sz r.A r.n r.c ws := by
  obtain ⟨ws, h1, h2, h3, h4⟩ := R.row r hr
  refine ⟨ws, h1, ?_⟩
  split at h4
  · exact h4.mono (pubG_old R)
  · rename_i hf
    obtain ⟨⟨h5, h6⟩, h7⟩ := h4
    have h6' := h6
    rcases h6 with ⟨h6, h8⟩ | ⟨g, cap, cur, e1, _, g1, g2, g3, _⟩
    · injection h6 with e1 e2 e3
      exact ⟨h3, by omega, by rw [e3]; exact Nat.zero_le _, fun _ => ⟨h8, e3⟩, (fun h => by cases h), h2, h7, fun a ha => by rw [e1] at ha; cases ha⟩
    · injection e1 with e1 e2 e3
      refine ⟨h3, by rw [e3]; exact g2, by rw [e3]; exact g3, (fun h => by rw [e1] at h; cases h), (fun h => by cases h), h2, h7, fun a ha j u hu => ?_⟩
      rw [e1] at ha
      injection ha with ha
      subst ha
      have hb : r.blk = some g := by simp only [Row.blk, hf, e1, Option.map_some]
      have hc := World.ownsRow.cells (v := .slice r.A r.n r.c) (n := r.n) (size := r.sz) (e := r.e) (base := 0) ⟨h5, h6'⟩ (g := g) (by rw [e1]; rfl) j u hu
      unfold pubG
      rw [if_pos (by rw [add_block]; exact List.mem_filterMap.2 ⟨r, hr, hb⟩)]
      exact hc
mutual
theorem puP_den (R : Rep β H w) : ∀ (s t : SV) (y : Value), puP H s t → Den β s y → Den ⟨β.b, pubG β H w⟩ t y
  | s, t, y, h, hd => by
    have up : Gle β ⟨β.b, pubG β H w⟩ := ⟨List.prefix_refl _, pubG_old R⟩
    cases s with
    | v x =>
      unfold puP at h
      split at h
      · rename_i heq
        injection heq with heq
        subst heq
        simp only [Den] at hd
        subst hd
        split at h
        · subst h; exact ⟨none, 0, 0, [], rfl, slOk_nil _ _ _, rfl⟩
        · subst h; rfl
      all_goals first
        | (rename_i heq; cases heq)
        | (subst h; exact hd)
    | lst f sz es =>
      simp only [puP] at h
      split at h
      · obtain ⟨h1, rfl, rfl⟩ := h
        obtain ⟨A, n, c, ws, g1, g2, g3⟩ := Den.mono up _ _ hd
        rename_i f'
        exact ⟨A, n, c, ws, g1, ⟨g2.len, g2.le, g2.mx, g2.nil, fun hf => g2.full (by subst hf; simpa [impB] using h1), g2.sz, g2.one, g2.mem⟩, g3⟩
      · subst h; exact Den.mono up _ _ hd
    | own ri A n c =>
      simp only [puP] at h
      split at h
      · obtain ⟨rfl, h⟩ := h
        split at h
        case h_2 => exact h.elim
        rename_i r hr
        obtain ⟨⟨rfl, rfl, rfl⟩, rfl, rfl⟩ := h
        rw [nth_eq] at hr
        obtain ⟨ws, g1, g2⟩ := row_pub R (List.mem_of_getElem? hr)
        exact ⟨_, _, _, ws, DenL.mono up _ _ g1, g2, hd⟩
      · subst h; exact hd
    | agg l =>
      simp only [puP] at h
      split at h
      · obtain ⟨xs, h1, h2⟩ := hd
        exact ⟨xs, puPL_den R l _ xs h h1, h2⟩
      · subst h; exact Den.mono up _ _ hd
    | tup l =>
      simp only [puP] at h
      split at h
      · obtain ⟨xs, h1, h2⟩ := hd
        exact ⟨xs, puPL_den R l _ xs h h1, h2⟩
      · subst h; exact Den.mono up _ _ hd
    | _ => simp only [puP] at h; subst h; exact Den.mono up _ _ hd
theorem puPL_den (R : Rep β H w) : ∀ (l m : List SV) (ys : List Value), puPL H l m → DenL β l ys → DenL ⟨β.b, pubG β H w⟩ m ys
  | [], m, ys, h, hd => by simp only [puPL] at h; subst h; exact hd
  | s :: r, m, ys, h, hd => by
    simp only [puPL] at h
    split at h
    · exact h.elim
    · obtain ⟨y, zs, h1, h2, h3⟩ := hd
      exact ⟨y, zs, puP_den R s _ y h.1 h1, puPL_den R r _ zs h.2 h2, h3⟩
end
end
/-- A call that only tells a value, from whatever state. -/
def Fc (P : Program) (f : FuncId) (args : List SV) (r0 : SV) : Prop := ∀ H, Tr P f args H fun r H' => r = r0 ∧ H' = H
section
variable {P : Program}
theorem Fc.mk {f : FuncId} {args : List SV} {r0 : SV} (h : Tr P f args ⟨0, [], []⟩ fun r H' => puP H' r r0) (ha : blwL 0 args = true) (hr : blw 0 r0 = true) : Fc P f args r0 := by
  refine fun H => ⟨fun β w xs R hd => ?_⟩
  have R0 : Rep ⟨[], β.g⟩ ⟨0, [], []⟩ w := ⟨rfl, rfl, fun i cs b h => by simp at h, fun r hr => by simp at hr, by simp [owned], fun a v hg => ⟨(R.g a v hg).1, by simp [owned]⟩⟩
  have hd0 : DenL ⟨[], β.g⟩ args xs := DenL.cut (m := 0) (show Cut 0 β ⟨[], β.g⟩ from ⟨fun i hi => absurd hi (Nat.not_lt_zero i), fun _ _ h => h⟩) _ _ ha hd
  refine (h.run _ w xs R0 hd0).mono ?_
  rintro x w' ⟨r, H', β', h1, h2, h3, h4⟩
  have hpd := puP_den h2 _ _ _ h4 h1
  have hfr : ∀ k, k < w.heap.size → w'.heap[k]? = w.heap[k]? := fun k hk => h3.fr.block k hk (by simp [owned])
  have hup : Gle β ⟨β.b, pubG β' H' w'⟩ := ⟨List.prefix_refl _, fun a v h => pubG_old h2 a v (h3.pre.2 a v h)⟩
  have hgn : ∀ a v, pubG β' H' w' a = some v → β.g a = some v ∨ w.heap.size ≤ a.block := by
    intro a v h
    unfold pubG at h
    split at h
    · rename_i hm
      rcases h3.own a.block (List.mem_append_right _ hm) with h5 | h5
      · simp [owned] at h5
      · exact .inr h5
    · rcases h3.gn a v h with h5 | h5 | h5
      · exact .inl h5
      · simp [owned] at h5
      · exact .inr h5
  have hO := R.blt
  refine ⟨r0, H, ⟨β.b, pubG β' H' w'⟩, ?_, ⟨R.len, R.nb, ?_, ?_, R.nd, ?_⟩, ⟨hup, ⟨h3.fr.os, h3.fr.tape, h3.fr.output, h3.fr.size, fun k hk _ => hfr k hk⟩, fun _ h => .inl h, fun a v h => ?_⟩, rfl, rfl⟩
  · exact Den.cut (m := 0) (show Cut 0 ⟨β'.b, pubG β' H' w'⟩ ⟨β.b, pubG β' H' w'⟩ from ⟨fun i hi => absurd hi (Nat.not_lt_zero i), fun _ _ h => h⟩) _ _ hr hpd
  · intro i y b hi hb
    have h5 := R.box i y b hi hb
    exact h5.mono hup h3.fr.size (hfr b h5.lt)
  · intro r' hr'
    exact (R.row r' hr').mono hup h3.fr.size fun b hb => hfr b ((R.row r' hr').lt hb)
  · intro a v hg
    refine ⟨pubG_cell h2 a v hg, fun hm => ?_⟩
    rcases hgn a v hg with h5 | h5
    · exact (R.g a v h5).2 hm
    · have := hO _ hm; omega
  · rcases hgn a v h with h5 | h5
    · exact .inl h5
    · exact .inr (.inr h5)
theorem Fc.use {f : FuncId} {args args' : List SV} {r0 : SV} {H : Hp} {K : SV → Hp → Prop} (h : Fc P f args' r0) (hl : lePL args args') (hk : K r0 H) : Tr P f args H K :=
  ⟨fun β w xs R hd => ((h H).run β w xs R (lePL_den _ _ _ hl hd)).mono fun x w' ⟨r, H', β', h1, h2, h3, h4, h5⟩ => ⟨r, H', β', h1, h2, h3, by rw [h4, h5]; exact hk⟩⟩
theorem Fc.le {f : FuncId} {args : List SV} {r0 r1 : SV} (h : Fc P f args r0) (hl : leP r0 r1) : Fc P f args r1 := fun H =>
  ⟨fun β w xs R hd => ((h H).run β w xs R hd).mono fun x w' ⟨r, H', β', h1, h2, h3, h4, h5⟩ => ⟨r1, H', β', leP_den _ _ _ hl (h4 ▸ h1), h2, h3, rfl, h5⟩⟩
/-- From a body. -/
theorem Fc.of_body {T : List TI} (hT : TabOk T P) {f : FuncId} {fn : Func} {args : List SV} {r0 : SV} (hf : P.funcs[f]? = some fn) (hok : okFn fn args.length = true) (ha : blwL 0 args = true) (hr : blw 0 r0 = true)
    (h : vcC T P fn.ntmps none (bodyOf fn) ⟨argsTs 0 args, []⟩ ⟨0, [], []⟩ (retK T fn fun r H' => puP H' r r0)) : Fc P f args r0 := Fc.mk (Tr.of_body hT hf hok h) ha hr
end
end Go.Sy

