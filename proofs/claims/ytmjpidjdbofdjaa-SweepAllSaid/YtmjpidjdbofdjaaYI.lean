import Derived.Test.YtmjpidjdbofdjaaYH
/- Sy, part I: calls, regions in their order, code, by the kit's walk inside a (wide) fence: outside and inside rounds of loops over functions. -/
set_option linter.unusedVariables false
set_option linter.unusedSimpArgs false
namespace Go.Sy
open Go

/-- The fence that lets all in, in a round or not. -/
abbrev W0 (ro : Option Nat) : Fence := { fn := fun _ => True, depth := none, alive := false, round := ro }
theorem W0_room (ro : Option Nat) (n : Nat) : (W0 ro).room n := fun _ h => by cases h
theorem callsIn_W0 {ro : Option Nat} {n : Nat} {P : Program} {f : FuncId} {args : Array Value} {w : World} {R : Ending → World → Prop} : CallsIn (W0 ro) n P f args w R ↔ Calls P f args w R :=
  (show CallsIn (W0 ro) n P f args w R ↔ CallsIn Fence.wide n P f args w R from Iff.rfl).trans callsIn_wide

/-- A call from w comes to a value and a world of which Φ holds: it enters a body, or the model answers for it. -/
def Ran (P : Program) (f : FuncId) (xs : Array Value) (w : World) (Φ : Value → World → Prop) : Prop :=
  ((∃ fn, P.funcs[f]? = some fn ∧ fn.body.isSome = true ∧ (fn.name == "runtime.NumGoroutine") = false) ∧ Calls P f xs w fun e w' => ∃ x, e = .returned x ∧ Φ x w') ∨
  ∃ x w', (callFunc f xs).run P w = .ok (.value x) w' ∧ Φ x w'
theorem Ran.mono {P : Program} {f : FuncId} {xs : Array Value} {w : World} {Φ Ψ : Value → World → Prop} (h : Ran P f xs w Φ) (k : ∀ x w', Φ x w' → Ψ x w') : Ran P f xs w Ψ := by
  rcases h with ⟨h1, h2⟩ | ⟨x, w', h1, h2⟩
  · exact .inl ⟨h1, h2.mono fun _ _ ⟨x, h3, h4⟩ => ⟨x, h3, k _ _ h4⟩⟩
  · exact .inr ⟨x, w', h1, k _ _ h2⟩
/-- A call, from a state: it returns, and Q holds of its result and of the state behind. -/
structure Tr (P : Program) (f : FuncId) (args : List SV) (H : Hp) (Q : SV → Hp → Prop) : Prop where
  run : ∀ β w xs, Rep β H w → DenL β args xs → Ran P f xs.toArray w fun x w' =>
    ∃ r H' β', Den β' r x ∧ Rep β' H' w' ∧ Ext β H w β' H' w' ∧ Q r H'
theorem Tr.mono {P : Program} {f : FuncId} {args : List SV} {H : Hp} {Q Q' : SV → Hp → Prop} (h : Tr P f args H Q) (hq : ∀ r H', Q r H' → Q' r H') : Tr P f args H Q' :=
  ⟨fun β w xs R hd => (h.run β w xs R hd).mono fun _ _ ⟨r, H', β', h2, h3, h4, h5⟩ => ⟨r, H', β', h2, h3, h4, hq _ _ h5⟩⟩
/-- One round of a loop over a function, from a state: what yield hands back. -/
structure RdQ (P : Program) (i : Nat) (as : List SV) (H : Hp) (k : SV → Hp → Prop) : Prop where
  run : ∀ β w l xs, Rep β H w → β.b[i]? = some l → DenL β as xs → ∃ r : Loop, w.heap[l]? = some (.loop r) ∧ r.params.size = xs.length ∧
    RoundIn (W0 none) 0 P l r.fn ((r.params.zip xs.toArray).foldl (fun tmps (t, a) => tmps.setIfInBounds t a) r.tmps) r.assign r.body w
      (fun e w' => ∃ y, e = .returned y ∧ ∃ s H' β', Den β' s y ∧ Rep β' H' w' ∧ Ext β H w β' H' w' ∧ k s H')
/-- The function that a method of a value behind an interface is. -/
def methOf (P : Program) (t : TypeId) (name : String) : Option FuncId :=
  match P.info? t with
  | some ti => match ti.methods.find? (·.name == name) with
    | some m => match m.path.toList, m.func with
      | [], some (f, pr) => match P.underlying t with
        | some (.pointer _) => if pr then some f else none
        | some _ => if pr then none else some f
        | none => none
      | _, _ => none
    | none => none
  | none => none
def callS (T : List TI) (P : Program) (c : Call) (E : Env) (H : Hp) (k : SV → Hp → Prop) : Prop :=
  match c.callee with
  | .value f => nd (ev E f) fun s => nd (evs E c.args.toList) fun as => match s with
    | .clo (.func g) a cs => lf (a ++ as ++ cs) fun l => Tr P g l H k
    | .yld i => RdQ P i as H k
    | _ => False
  | .builtin b => nd (evs E c.args.toList) fun as => bltS T P b c.argTypes.toList as H k
  | .invoke r m => nd (ev E r) fun s => nd (evs E c.args.toList) fun as => match s with
    | .ifc t x => ∃ g, methOf P t m = some g ∧ lf (x :: as) fun l => Tr P g l H k
    | _ => False

/-! ### Regions -/
def dstOf : List Oper → Nat → Option Nat
  | [], _ => none
  | o :: _, 0 => o.dst
  | _ :: r, j + 1 => dstOf r j
theorem dstOf_eq : ∀ (l : List Oper) (j : Nat), dstOf l j = (l[j]?).bind (·.dst)
  | [], _ => rfl
  | o :: _, 0 => rfl
  | _ :: r, j + 1 => by simp only [dstOf, dstOf_eq r j]; simp
def opC (T : List TI) (P : Program) (o : Oper) (E : Env) (H : Hp) (k : SV → Hp → Prop) : Prop :=
  match o.op with
  | .call c => callS T P c E H k
  | op => opS T P op E H k
/-- A call is deferred. -/
def defS (c : Call) (ro : Option Nat) (E : Env) (k : Env → Prop) : Prop :=
  match ro, c.callee with
  | none, .value f => nd (ev E f) fun s => nd (evs E c.args.toList) fun as => match s with
    | .clo g a cs => lf (a ++ as) fun l => k ⟨E.ts, .clo g l cs :: E.ds⟩
    | _ => False
  | _, _ => False
/-- One operation that is done, and what is behind it. -/
def doC (T : List TI) (P : Program) (ro : Option Nat) (n : Nat) (o : Oper) (next : Env → Hp → (Env → Hp → Prop) → Prop) (E : Env) (H : Hp) (K : Env → Hp → Prop) : Prop :=
  match o.op with
  | .defer c => defS c ro E fun E' => put n o.dst (.v undef) E' fun E' => next E' H K
  | _ => opC T P o E H fun s H' => put n o.dst s E fun E' => next E' H' K
/-- One operation, and what is behind it. (By recursors, not by equations: Lean's kernel and its elaborator then unfold alike.) -/
def stepC (T : List TI) (P : Program) (ro : Option Nat) (n : Nat) (ops : List Oper) (o : Oper) (next : Env → Hp → (Env → Hp → Prop) → Prop) (E : Env) (H : Hp) (K : Env → Hp → Prop) : Prop :=
  match o.guard with
  | none => doC T P ro n o next E H K
  | some (j, want) => nd (dstOf ops j) fun d => nd (get E.ts d) fun g => match g with
    | .v (.bool b) => match want with
      | true => cnd b (doC T P ro n o next E H K) (put n o.dst (.v undef) E fun E' => next E' H K)
      | false => cnd b (put n o.dst (.v undef) E fun E' => next E' H K) (doC T P ro n o next E H K)
    | .v (.tuple _) => put n o.dst (.v undef) E fun E' => next E' H K
    | _ => False
noncomputable def vcOps (T : List TI) (P : Program) (ro : Option Nat) (n : Nat) (ops : List Oper) (l : List Oper) : Env → Hp → (Env → Hp → Prop) → Prop :=
  List.rec (motive := fun _ => Env → Hp → (Env → Hp → Prop) → Prop) (fun E H K => K E H) (fun o _ next => stepC T P ro n ops o next) l
theorem vcOps_cons {T : List TI} {P : Program} {ro : Option Nat} {n : Nat} {ops : List Oper} {o : Oper} {r : List Oper} {E : Env} {H : Hp} {K : Env → Hp → Prop} : vcOps T P ro n ops (o :: r) E H K = stepC T P ro n ops o (vcOps T P ro n ops r) E H K := rfl

section
variable {P : Program}
theorem run_callFunc {f : FuncId} {fn : Func} (hf : P.funcs[f]? = some fn) (hb : fn.body.isSome = true) (hn : (fn.name == "runtime.NumGoroutine") = false) (args : Array Value) (w : World) :
    (callFunc f args).run P w = .ok (.enter f args) w := by
  have hb' : fn.body ≠ none := by intro h; simp [h] at hb
  have hn' : fn.name ≠ "runtime.NumGoroutine" := by simpa using hn
  simp [callFunc, hf, hn', hb']
theorem run_method {t : TypeId} {name : String} {g : FuncId} (h : methOf P t name = some g) (fuel : Nat) (v : Value) (w : World) : (method (fuel + 1) t v name).run P w = .ok (g, v) w := by
  unfold methOf at h
  split at h
  case h_2 => cases h
  rename_i ti hti
  split at h
  case h_2 => cases h
  rename_i m hm
  split at h
  case h_2 => cases h
  rename_i f pr hpath hfun
  split at h
  · rename_i e hu
    split at h
    case isFalse => cases h
    rename_i hpr
    injection h with h
    subst h
    simp [method, typeInfo, hti, hm, hpath, follow, hfun, receiverAt, run_underlying hu, hpr, Place.get, Sem.run_pure]
  · rename_i d hne hu
    split at h
    case isTrue => cases h
    rename_i hpr
    injection h with h
    subst h
    have hpr : pr = false := by simpa using hpr
    subst hpr
    have hrec : ∀ wr, (receiverAt t (.val v) false wr).run P w = .ok v w := by
      intro wr
      unfold receiverAt
      simp only [Sem.run_bind, run_underlying hu, Result.andThen_ok]
      cases d <;> first
        | (exact absurd rfl (hne _))
        | simp [Place.get, Sem.run_pure]
    simp [method, typeInfo, hti, hm, hpath, follow, hfun, hrec, Sem.run_pure]
  · cases h

/-- What a step of a region must show: from the operation's own work to the rest. -/
theorem opC_wp {T : List TI} (hT : TabOk T P) {ro : Option Nat} {n b0 : Nat} {β : Gh} {E : Env} {H : Hp} {a : Act} {w : World} (R : RepA n b0 β E H a w) {o : Oper} {k : SV → Hp → Prop} (hnd : ∀ c, o.op ≠ .defer c) (h : opC T P o E H k)
    {next : Act → World → Prop} {Q : Exit → Act → World → Prop}
    (hk : ∀ β' s y H' w', Den β' s y → Rep β' H' w' → Ext β H w β' H' w' → k s H' → next (a.put o.dst y) w') : o.wpIn (W0 ro) 0 P a w next Q := by
  refine ⟨fun _ _ => trivial, ?_⟩
  show o.uponIn (W0 ro) 0 P a next Q ((o.semAt ro a.eval).run P w)
  rw [Oper.semAt_eq ro a.eval o hnd]
  have fin : Goes P β H w (execOp a.eval o) k → o.uponIn (W0 ro) 0 P a next Q ((execOp a.eval o).run P w) := by
    rintro ⟨y, w', β', s, H', hr, hd, R', X', hkk⟩
    rcases hr with hr | ⟨hr, rfl⟩
    · rw [hr]; exact hk β' s y H' w' hd R' X' hkk
    · rw [hr]; exact hk β' s _ H' w' hd R' X' hkk
  unfold opC at h
  split at h
  · rename_i op c he
    have hres : ∀ d : Deferred, (resolve a.eval c o.type).run P w = .ok d w → (execOp a.eval o).run P w = (invoke d.target d.args).run P w := by
      intro d hd
      unfold execOp
      rw [he]
      simp only [Sem.run_bind, hd, Result.andThen_ok]
    -- a call of a function
    have call : ∀ {g : FuncId} {l : List SV} {xs : List Value}, DenL β l xs → Tr P g l H k → (execOp a.eval o).run P w = (callFunc g xs.toArray).run P w → o.uponIn (W0 ro) 0 P a next Q ((execOp a.eval o).run P w) := by
      intro g l xs hdl h hr0
      rcases h.run β w _ R.rep hdl with ⟨⟨fn, hf, hb, hn⟩, hrun⟩ | ⟨x, w', hx, r, H', β', h3, h4, h5, h6⟩
      · rw [hr0, run_callFunc hf hb hn]
        refine ⟨(fun h => by cases h), callsIn_W0.2 (hrun.mono ?_)⟩
        rintro e w' ⟨x, rfl, r, H', β', h3, h4, h5, h6⟩
        exact hk β' r x H' w' h3 h4 h5 h6
      · rw [hr0, hx]
        exact hk β' r x H' w' h3 h4 h5 h6
    unfold callS at h
    split at h
    · rename_i cal f hc
      replace h := nd_elim h
      obtain ⟨s, hs, h⟩ := h
      replace h := nd_elim h
      obtain ⟨as, has, h⟩ := h
      have hd := ev_den R hs
      have hda := evs_den R has
      split at h
      · rename_i g l1 l2
        rw [lf_eq] at h
        obtain ⟨xs, ys, h1, h2, hy⟩ := hd
        refine call (DenL.append (DenL.append h1 hda) h2) h ?_
        rw [hres { target := .fn (.func g) ys.toArray, args := xs.toArray ++ c.args.map a.eval } (by simp [resolve, hc, hy, Deferred.ofValue])]
        simp only [invoke]
        congr 2
        apply Array.ext'
        simp
      · rename_i i
        obtain ⟨l, hl, hy⟩ := hd
        obtain ⟨r, hr, hps, hround⟩ := h.run β w l _ R.rep hl hda
        rw [hres { target := .fn (.yield l) #[], args := c.args.map a.eval } (by simp [resolve, hc, hy, Deferred.ofValue])]
        have hir : (invoke (.fn (.yield l) #[]) (c.args.map a.eval)).run P w = .ok (.round l r.fn ((r.params.zip (c.args.map a.eval)).foldl (fun tmps (t, a) => tmps.setIfInBounds t a) r.tmps) r.assign r.body) w := by
          simp only [invoke, Instr.yield, Instr.getLoop, Sem.run_bind]
          simp [getObj, Sem.run, hr, Sem.run_pure, show c.args.size = r.params.size by rw [hps]; simp]
        rw [hir]
        have e1 : (c.args.toList.map a.eval).toArray = c.args.map a.eval := by apply Array.ext'; simp
        rw [e1] at hround
        refine ⟨(fun h => by cases h), RoundIn.mono (F := W0 none) hround ?_⟩
        rintro e w' ⟨y, rfl, s, H', β', h3, h4, h5, h6⟩
        exact hk β' s y H' w' h3 h4 h5 h6
      · exact h.elim
    · rename_i b hc
      replace h := nd_elim h
      obtain ⟨as, has, h⟩ := h
      have hda := evs_den R has
      refine fin ?_
      obtain ⟨y, w', β', s, H', hr, hd, R', X', hkk⟩ := bltS_goes (P := P) hT R.rep (ty := o.type) (cn := c.args.map fun | .const _ => true | _ => false) hda h
      refine ⟨y, w', β', s, H', ?_, hd, R', X', hkk⟩
      have e : (execOp a.eval o).run P w = (builtin b c.argTypes o.type (c.args.map fun | .const _ => true | _ => false) (c.args.toList.map a.eval).toArray).run P w := by
        rw [hres { target := .builtin b c.argTypes o.type (c.args.map fun | .const _ => true | _ => false), args := c.args.map a.eval } (by simp [resolve, hc]; intro a _; cases a <;> rfl)]
        simp only [invoke]
        congr 2
        apply Array.ext'
        simp
      rw [e]
      exact hr
    · rename_i rc m hc
      replace h := nd_elim h
      obtain ⟨s, hs, h⟩ := h
      replace h := nd_elim h
      obtain ⟨as, has, h⟩ := h
      have hd := ev_den R hs
      have hda := evs_den R has
      split at h
      case h_2 => exact h.elim
      rename_i t x
      obtain ⟨g, hg, h⟩ := h
      rw [lf_eq] at h
      obtain ⟨z, hz, hy⟩ := hd
      refine call (l := x :: as) (xs := z :: c.args.toList.map a.eval) ⟨z, _, hz, hda, rfl⟩ h ?_
      rw [hres { target := .fn (.method m) #[], args := #[a.eval rc] ++ c.args.map a.eval } (by simp [resolve, hc])]
      simp only [invoke, hy]
      have e1 : (#[Value.iface t z] ++ c.args.map a.eval)[0]? = some (Value.iface t z) := by
        rw [Array.getElem?_append_left (by simp)]; rfl
      have e2 : (#[Value.iface t z] ++ c.args.map a.eval).extract 1 (#[Value.iface t z] ++ c.args.map a.eval).size = c.args.map a.eval := by
        apply Array.ext'
        simp [List.take_of_length_le]
      simp only [e1, e2, callMethod, Sem.run_bind]
      have hp : (program).run P w = .ok P w := rfl
      simp only [hp, Result.andThen_ok]
      have hfu : ∃ f, P.types.size + Made.depth = f + 1 := ⟨P.types.size + Made.depth - 1, by simp [Made.depth]⟩
      obtain ⟨fu, hfu⟩ := hfu
      rw [hfu, run_method hg]
      simp only [Result.andThen_ok]
      congr 2
      apply Array.ext'
      simp
  · exact fin (opS_goes hT R h)
end
end Go.Sy

