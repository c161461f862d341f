import Derived.Test.YthdkofhgdmgdcabSxE
/- Sx, part F: calls, regions, code, functions. -/
set_option linter.unusedVariables false
set_option linter.unusedSimpArgs false
namespace Go.Sx
open Go

/-- A call from w comes to a value and a world of which Φ holds: it enters a body, or the model answers for it. -/
def Ran (P : Program) (f : FuncId) (xs : Array Value) (w : World) (Φ : Value → World → Prop) : Prop :=
  ((∃ fn, P.funcs[f]? = some fn ∧ fn.body.isSome = true ∧ (fn.name == "runtime.NumGoroutine") = false) ∧ Calls P f xs w fun e w' => ∃ x, e = .returned x ∧ Φ x w') ∨
  ∃ x w', (callFunc f xs).run P w = .ok (.value x) w' ∧ Φ x w'
theorem Ran.mono {P : Program} {f : FuncId} {xs : Array Value} {w : World} {Φ Ψ : Value → World → Prop} (h : Ran P f xs w Φ) (k : ∀ x w', Φ x w' → Ψ x w') : Ran P f xs w Ψ := by
  rcases h with ⟨h1, h2⟩ | ⟨x, w', h1, h2⟩
  · exact .inl ⟨h1, h2.mono fun _ _ ⟨x, h3, h4⟩ => ⟨x, h3, k _ _ h4⟩⟩
  · exact .inr ⟨x, w', h1, k _ _ h2⟩
/-- A call, from a state: it returns, and Q holds of its result and of the state behind. -/
structure Tr (P : Program) (f : FuncId) (args : List SV) (H : Hp) (Q : SV → Hp → Prop) : Prop where
  run : ∀ β w xs, Rep β H w → DenL β args xs → Ran P f xs.toArray w fun x w' =>
    ∃ r H' β', Den β' r x ∧ Rep β' H' w' ∧ Ext β H w β' H' w' ∧ Q r H'
theorem Tr.mono {P : Program} {f : FuncId} {args : List SV} {H : Hp} {Q Q' : SV → Hp → Prop} (h : Tr P f args H Q) (hq : ∀ r H', Q r H' → Q' r H') : Tr P f args H Q' :=
  ⟨fun β w xs R hd => (h.run β w xs R hd).mono fun _ _ ⟨r, H', β', h2, h3, h4, h5⟩ => ⟨r, H', β', h2, h3, h4, hq _ _ h5⟩⟩
/-- A builtin that works on memory: whoever proves says what it does. -/
structure BltQ (P : Program) (b : Builtin) (ts : List TypeId) (as : List SV) (H : Hp) (k : SV → Hp → Prop) : Prop where
  goes : ∀ β w (tsA : Array TypeId) ty cn xs, tsA.toList = ts → Rep β H w → DenL β as xs → Goes P β H w (builtin b tsA ty cn xs.toArray) k

/-! ### Builtins that only compute -/
def min2 (b : Builtin) (k : IntKind) (x y : Int) : Int := match b with | .min => (if y < x then y else x) | _ => (if y > x then y else x)
def foldI (b : Builtin) (k : IntKind) : Int → List SV → (Int → Prop) → Prop
  | x, [], c => c x
  | x, s :: r, c => match s with
    | .v (.int k' y) => match kindEq k k' with | true => foldI b k (min2 b k x y) r c | false => False
    | _ => False
def bltS (T : List TI) (P : Program) (b : Builtin) (ts : List TypeId) (as : List SV) (H : Hp) (k : SV → Hp → Prop) : Prop :=
  match b with
  | .len => nd (nth ts 0) fun t => nd (getT T t) fun i => match i.d, as with
    | .string, [.v (.string s)] => k (.v (.int .i64 s.size)) H
    | .slice _ _ _ _, [.v (.slice _ n _)] => k (.v (.int .i64 n)) H
    | .slice _ _ _ _, [.sl _ _ n _] => k (.v (.int .i64 n)) H
    | .array n _ _, [_] => k (.v (.int .i64 n)) H
    | _, _ => False
  | .min => match as with
    | .v (.int kd x) :: r => foldI .min kd x r fun z => k (.v (.int kd z)) H
    | _ => False
  | .max => match as with
    | .v (.int kd x) :: r => foldI .max kd x r fun z => k (.v (.int kd z)) H
    | _ => False
  | .cap => nd (nth ts 0) fun t => nd (getT T t) fun i => match i.d, as with
    | .slice _ _ _ _, [.v (.slice _ _ c)] => k (.v (.int .i64 c)) H
    | .slice _ _ _ _, [.sl _ _ _ c] => k (.v (.int .i64 c)) H
    | _, _ => False
  | b => BltQ P b ts as H k
def callS (T : List TI) (P : Program) (c : Call) (E : Env) (H : Hp) (k : SV → Hp → Prop) : Prop :=
  match c.callee with
  | .value f => nd (ev E f) fun s => nd (evs E c.args.toList) fun as => match s with
    | .clo (.func g) a cs => lf (a ++ as ++ cs) fun l => Tr P g l H k
    | _ => False
  | .builtin b => nd (evs E c.args.toList) fun as => bltS T P b c.argTypes.toList as H k
  | _ => False

section
variable {P : Program} {β : List Nat} {H : Hp} {w : World}
theorem foldI_run (b : Builtin) (kd : IntKind) : ∀ (l : List SV) (x : Int) (ys : List Value) (c : Int → Prop), DenL β l ys → foldI b kd x l c →
    ∃ z, c z ∧ (b = .min → ((ys.foldlM Builtin.min2 (.int kd x) : Sem Value).run P w = .ok (.int kd z) w)) ∧ (b = .max → ((ys.foldlM Builtin.max2 (.int kd x) : Sem Value).run P w = .ok (.int kd z) w))
  | [], x, ys, c, hd, h => by simp [DenL] at hd; subst hd; exact ⟨x, h, fun _ => rfl, fun _ => rfl⟩
  | s :: r, x, ys, c, hd, h => by
    obtain ⟨y, zs, h1, h2, rfl⟩ := hd
    simp only [foldI] at h
    split at h
    · rename_i k' y'
      split at h
      · rename_i hk
        have hk := kindEq_eq hk
        subst hk
        simp only [Den] at h1
        subst h1
        obtain ⟨z, hz, hmin, hmax⟩ := foldI_run b kd r _ zs c h2 h
        refine ⟨z, hz, fun e => ?_, fun e => ?_⟩
        · have := hmin e
          subst e
          simp only [List.foldlM_cons, Sem.run_bind, Builtin.min2, Sem.run_pure, Result.andThen_ok]
          exact this
        · have := hmax e
          subst e
          simp only [List.foldlM_cons, Sem.run_bind, Builtin.max2, Sem.run_pure, Result.andThen_ok]
          exact this
      · exact h.elim
    · exact h.elim

theorem bltS_goes {T : List TI} (hT : TabOk T P) (R : Rep β H w) {b : Builtin} {ts : Array TypeId} {ty : TypeId} {cn : Array Bool} {as : List SV} {xs : List Value} (hd : DenL β as xs) {k : SV → Hp → Prop}
    (h : bltS T P b ts.toList as H k) : Goes P β H w (builtin b ts ty cn xs.toArray) k := by
  unfold bltS at h
  split at h
  · replace h := nd_elim h
    obtain ⟨t, ht, h⟩ := h
    replace h := nd_elim h
    obtain ⟨i, hi, h⟩ := h
    rw [nth_eq] at ht
    have ht' : ts[0]? = some t := by simpa using ht
    obtain ⟨ti⟩ := hT.get hi
    have htd := ti.d
    split at h
    · rename_i s hid
      obtain ⟨y, zs, h1, h2, rfl⟩ := hd
      simp only [Den] at h1
      simp only [DenL] at h2
      subst h1; subst h2
      have hdesc : ti.desc = .string := by
        rw [hid] at htd
        unfold tdOf at htd
        split at htd <;> try (first | (simp at htd; done) | (split at htd <;> simp at htd; done))
        rename_i hdesc
        exact hdesc
      refine .plain R ?_ h
      simp [builtin, Builtin.len_, ht', ti.run_und, hdesc, goInt]
    · rename_i e es eb ea A n c hid
      obtain ⟨y, zs, h1, h2, rfl⟩ := hd
      simp only [Den] at h1
      simp only [DenL] at h2
      subst h1; subst h2
      have hdesc : ∃ e, ti.desc = .slice e := by
        rw [hid] at htd
        unfold tdOf at htd
        split at htd <;> try (first | (simp at htd; done) | (split at htd <;> simp at htd; done))
        rename_i e hdesc
        exact ⟨e, hdesc⟩
      obtain ⟨e, hdesc⟩ := hdesc
      refine .plain R ?_ h
      simp [builtin, Builtin.len_, ht', ti.run_und, hdesc, goInt]
    · rename_i e es eb ea A n c d hid
      obtain ⟨y, zs, h1, h2, rfl⟩ := hd
      obtain ⟨bb, _, rfl⟩ := h1
      simp only [DenL] at h2
      subst h2
      have hdesc : ∃ e, ti.desc = .slice e := by
        rw [hid] at htd
        unfold tdOf at htd
        split at htd <;> try (first | (simp at htd; done) | (split at htd <;> simp at htd; done))
        rename_i e hdesc
        exact ⟨e, hdesc⟩
      obtain ⟨e, hdesc⟩ := hdesc
      refine .plain R ?_ h
      simp [builtin, Builtin.len_, ht', ti.run_und, hdesc, goInt]
    · rename_i n es ea s hid
      obtain ⟨y, zs, h1, h2, rfl⟩ := hd
      simp only [DenL] at h2
      subst h2
      have hdesc : ∃ e, ti.desc = .array n e := by
        rw [hid] at htd
        unfold tdOf at htd
        split at htd <;> try (first | (simp at htd; done) | (split at htd <;> simp at htd; done))
        rename_i n' e hdesc
        split at htd
        · have hx := htd
          simp at hx
          exact ⟨e, by rw [hdesc, hx.1]⟩
        · cases htd
      obtain ⟨e, hdesc⟩ := hdesc
      refine .plain R ?_ h
      simp only [builtin, Builtin.len_, Sem.run_bind]
      simp [ht', ti.run_und, hdesc, goInt]
    · exact h.elim
  · split at h
    · rename_i kd x r
      obtain ⟨y, zs, h1, h2, rfl⟩ := hd
      simp only [Den] at h1
      subst h1
      obtain ⟨z, hz, hm, _⟩ := foldI_run (P := P) (w := w) .min kd r x zs _ h2 h
      refine .plain R ?_ hz
      have := hm rfl
      simp [builtin, Builtin.min_, this]
    · exact h.elim
  · split at h
    · rename_i kd x r
      obtain ⟨y, zs, h1, h2, rfl⟩ := hd
      simp only [Den] at h1
      subst h1
      obtain ⟨z, hz, _, hm⟩ := foldI_run (P := P) (w := w) .max kd r x zs _ h2 h
      refine .plain R ?_ hz
      have := hm rfl
      simp [builtin, Builtin.max_, this]
    · exact h.elim
  · replace h := nd_elim h
    obtain ⟨t, ht, h⟩ := h
    replace h := nd_elim h
    obtain ⟨i, hi, h⟩ := h
    rw [nth_eq] at ht
    have ht' : ts[0]? = some t := by simpa using ht
    obtain ⟨ti⟩ := hT.get hi
    have htd := ti.d
    have hdesc : ∀ {e es eb ea}, i.d = .slice e es eb ea → ∃ e, ti.desc = .slice e := by
      intro e es eb ea hid
      rw [hid] at htd
      unfold tdOf at htd
      split at htd <;> try (first | (simp at htd; done) | (split at htd <;> simp at htd; done))
      rename_i e hdesc
      exact ⟨e, hdesc⟩
    split at h
    · rename_i e es eb ea A n c hid
      obtain ⟨y, zs, h1, h2, rfl⟩ := hd
      simp only [Den] at h1
      simp only [DenL] at h2
      subst h1; subst h2
      obtain ⟨e, hdesc⟩ := hdesc hid
      refine .plain R ?_ h
      simp [builtin, Builtin.cap_, ht', ti.run_und, hdesc, goInt]
    · rename_i e es eb ea A n o c hid
      obtain ⟨y, zs, h1, h2, rfl⟩ := hd
      obtain ⟨bb, _, rfl⟩ := h1
      simp only [DenL] at h2
      subst h2
      obtain ⟨e, hdesc⟩ := hdesc hid
      refine .plain R ?_ h
      simp [builtin, Builtin.cap_, ht', ti.run_und, hdesc, goInt]
    · exact h.elim
  · exact h.goes β w ts ty cn xs rfl R hd
end

/-! ### Regions -/
def dstOf : List Oper → Nat → Option Nat
  | [], _ => none
  | o :: _, 0 => o.dst
  | _ :: r, j + 1 => dstOf r j
theorem dstOf_eq : ∀ (l : List Oper) (j : Nat), dstOf l j = (l[j]?).bind (·.dst)
  | [], _ => rfl
  | o :: _, 0 => rfl
  | _ :: r, j + 1 => by simp only [dstOf, dstOf_eq r j]; simp
def opC (T : List TI) (P : Program) (o : Oper) (E : Env) (H : Hp) (k : SV → Hp → Prop) : Prop :=
  match o.op with
  | .call c => callS T P c E H k
  | op => opS T P op E H k
/-- One operation, and what is behind it. (By recursors, not by equations: Lean's kernel and its elaborator then unfold alike.) -/
def stepC (T : List TI) (P : Program) (n : Nat) (ops : List Oper) (o : Oper) (next : Env → Hp → (Env → Hp → Prop) → Prop) (E : Env) (H : Hp) (K : Env → Hp → Prop) : Prop :=
  match o.guard with
  | none => opC T P o E H fun s H' => put n o.dst s E fun E' => next E' H' K
  | some (j, want) => nd (dstOf ops j) fun d => nd (get E d) fun g => match g with
    | .v (.bool b) => match want with
      | true => cnd b (opC T P o E H fun s H' => put n o.dst s E fun E' => next E' H' K) (put n o.dst (.v undef) E fun E' => next E' H K)
      | false => cnd b (put n o.dst (.v undef) E fun E' => next E' H K) (opC T P o E H fun s H' => put n o.dst s E fun E' => next E' H' K)
    | .v (.tuple _) => put n o.dst (.v undef) E fun E' => next E' H K
    | _ => False
noncomputable def vcOps (T : List TI) (P : Program) (n : Nat) (ops : List Oper) (l : List Oper) : Env → Hp → (Env → Hp → Prop) → Prop :=
  List.rec (motive := fun _ => Env → Hp → (Env → Hp → Prop) → Prop) (fun E H K => K E H) (fun o _ next => stepC T P n ops o next) l
theorem vcOps_nil {T : List TI} {P : Program} {n : Nat} {ops : List Oper} {E : Env} {H : Hp} {K : Env → Hp → Prop} : vcOps T P n ops [] E H K = K E H := rfl
theorem vcOps_cons {T : List TI} {P : Program} {n : Nat} {ops : List Oper} {o : Oper} {r : List Oper} {E : Env} {H : Hp} {K : Env → Hp → Prop} : vcOps T P n ops (o :: r) E H K = stepC T P n ops o (vcOps T P n ops r) E H K := rfl

section
variable {P : Program}
theorem run_callFunc {f : FuncId} {fn : Func} (hf : P.funcs[f]? = some fn) (hb : fn.body.isSome = true) (hn : (fn.name == "runtime.NumGoroutine") = false) (args : Array Value) (w : World) :
    (callFunc f args).run P w = .ok (.enter f args) w := by
  have hb' : fn.body ≠ none := by intro h; simp [h] at hb
  have hn' : fn.name ≠ "runtime.NumGoroutine" := by simpa using hn
  simp [callFunc, hf, hn', hb']

/-- What a step of a region must show: from the operation's own work to the rest. -/
theorem opC_wp {T : List TI} (hT : TabOk T P) {n : Nat} {D : List Deferred} {β : List Nat} {E : Env} {H : Hp} {a : Act} {w : World} (R : RepA n D β E H a w) {o : Oper} {k : SV → Hp → Prop} (h : opC T P o E H k)
    {next : Act → World → Prop} {Q : Exit → Act → World → Prop}
    (hk : ∀ β' s y H' w', Den β' s y → Rep β' H' w' → Ext β H w β' H' w' → k s H' → next (a.put o.dst y) w') : o.wp P a w next Q := by
  have fin : Goes P β H w (execOp a.eval o) k → o.wp P a w next Q := by
    rintro ⟨y, w', β', s, H', hr, hd, R', X', hkk⟩
    unfold Oper.wp
    rcases hr with hr | ⟨hr, rfl⟩
    · rw [hr]; exact hk β' s y H' w' hd R' X' hkk
    · rw [hr]; exact hk β' s _ H' w' hd R' X' hkk
  unfold opC at h
  split at h
  · rename_i op c he
    have hres : ∀ d : Deferred, (resolve a.eval c o.type).run P w = .ok d w → (execOp a.eval o).run P w = (invoke d.target d.args).run P w := by
      intro d hd
      unfold execOp
      rw [he]
      simp only [Sem.run_bind, hd, Result.andThen_ok]
    unfold callS at h
    split at h
    · rename_i cal f hc
      replace h := nd_elim h
      obtain ⟨s, hs, h⟩ := h
      replace h := nd_elim h
      obtain ⟨as, has, h⟩ := h
      have hd := ev_den R hs
      have hda := evs_den R has
      split at h
      · rename_i g l1 l2
        rw [lf_eq] at h
        obtain ⟨xs, ys, h1, h2, hy⟩ := hd
        have hr0 : (execOp a.eval o).run P w = (callFunc g (xs ++ c.args.toList.map a.eval ++ ys).toArray).run P w := by
          rw [hres { target := .fn (.func g) ys.toArray, args := xs.toArray ++ c.args.map a.eval } (by simp [resolve, hc, hy, Deferred.ofValue])]
          simp only [invoke]
          congr 2
          apply Array.ext'
          simp
        rcases h.run β w _ R.rep (DenL.append (DenL.append h1 hda) h2) with ⟨⟨fn, hf, hb, hn⟩, hrun⟩ | ⟨x, w', hx, r, H', β', h3, h4, h5, h6⟩
        · unfold Oper.wp
          rw [hr0, run_callFunc hf hb hn]
          refine hrun.mono ?_
          rintro e w' ⟨x, rfl, r, H', β', h3, h4, h5, h6⟩
          exact hk β' r x H' w' h3 h4 h5 h6
        · unfold Oper.wp
          rw [hr0, hx]
          exact hk β' r x H' w' h3 h4 h5 h6
      · exact h.elim
    · rename_i b hc
      replace h := nd_elim h
      obtain ⟨as, has, h⟩ := h
      have hda := evs_den R has
      refine fin ?_
      obtain ⟨y, w', β', s, H', hr, hd, R', X', hkk⟩ := bltS_goes (P := P) hT R.rep (ty := o.type) (cn := c.args.map fun | .const _ => true | _ => false) hda h
      refine ⟨y, w', β', s, H', ?_, hd, R', X', hkk⟩
      have e : (execOp a.eval o).run P w = (builtin b c.argTypes o.type (c.args.map fun | .const _ => true | _ => false) (c.args.toList.map a.eval).toArray).run P w := by
        rw [hres { target := .builtin b c.argTypes o.type (c.args.map fun | .const _ => true | _ => false), args := c.args.map a.eval } (by simp [resolve, hc]; intro a _; cases a <;> rfl)]
        simp only [invoke]
        congr 2
        apply Array.ext'
        simp
      rw [e]
      exact hr
    · exact h.elim
  · exact fin (opS_goes hT R h)

theorem vcOps_sound {T : List TI} (hT : TabOk T P) {n : Nat} {D : List Deferred} {ops : Array Oper} {Q : Exit → Act → World → Prop} : ∀ (l : List Oper) {β : List Nat} {E : Env} {H : Hp} {a : Act} {w : World} {K : Env → Hp → Prop},
    RepA n D β E H a w → vcOps T P n ops.toList l E H K → (∀ β' E' H' a' w', RepA n D β' E' H' a' w' → Ext β H w β' H' w' → K E' H' → Q .normal a' w') → wpList P ops Q l a w
  | [], β, E, H, a, w, K, R, h, hQ => hQ β E H a w R (Ext.refl _ _ _) h
  | o :: rest, β, E, H, a, w, K, R, h, hQ => by
    have doit : opC T P o E H (fun s H' => put n o.dst s E fun E' => vcOps T P n ops.toList rest E' H' K) → o.wp P a w (wpList P ops Q rest) Q := by
      intro h
      refine opC_wp hT R h ?_
      intro β' s y H' w' hd R' X' hk
      obtain ⟨E', hk', RA⟩ := R.put R' X' hd hk
      exact vcOps_sound hT rest RA hk' fun β2 E2 H2 a2 w2 R2 X2 h2 => hQ β2 E2 H2 a2 w2 R2 (X'.trans X2) h2
    have skip : put n o.dst (.v undef) E (fun E' => vcOps T P n ops.toList rest E' H K) → wpList P ops Q rest (a.put o.dst undef) w := by
      intro h
      obtain ⟨E', hk', RA⟩ := R.put R.rep (Ext.refl _ _ _) (s := .v undef) (x := undef) rfl h
      exact vcOps_sound hT rest RA hk' hQ
    rw [vcOps_cons] at h
    unfold stepC at h
    unfold wpList
    split at h
    · rename_i hg
      rw [if_pos (by simp [Region.wanted, hg])]
      exact .inl (doit h)
    · rename_i j want hg
      replace h := nd_elim h
      obtain ⟨d, hd, h⟩ := h
      replace h := nd_elim h
      obtain ⟨g, hgt, h⟩ := h
      obtain ⟨y, hy, hdy⟩ := R.env d g hgt
      rw [dstOf_eq] at hd
      have hd' : (ops[j]?).bind (·.dst) = some d := by simpa using hd
      have hyd : yielded ops a.tmps j = match y with | .bool b => some b | _ => none := by
        unfold yielded
        rw [hd']
        simp only [Option.bind_some, hy]
        cases y <;> rfl
      split at h
      · rename_i b
        simp only [Den] at hdy
        subst hdy
        simp only at hyd
        have hw : Region.wanted o (yielded ops a.tmps) = (b == want) := by
          simp only [Region.wanted, hg, hyd]
          cases b <;> cases want <;> rfl
        split at h
        · rcases cnd_elim h with ⟨rfl, h⟩ | ⟨rfl, h⟩
          · rw [if_pos (by rw [hw]; rfl)]; exact .inl (doit h)
          · rw [if_neg (by rw [hw]; simp)]; exact skip h
        · rcases cnd_elim h with ⟨rfl, h⟩ | ⟨rfl, h⟩
          · rw [if_neg (by rw [hw]; simp)]; exact skip h
          · rw [if_pos (by rw [hw]; rfl)]; exact .inl (doit h)
      · rename_i ts
        simp only [Den] at hdy
        subst hdy
        simp only at hyd
        rw [if_neg (by simp [Region.wanted, hg, hyd])]
        exact skip h
      · exact h.elim
end

/-! ### Code -/
structure Sx (P : Program) (n : Nat) (D : List Deferred) (c : Code) (E : Env) (H : Hp) (K : Exit → Env → Hp → Prop) : Prop where
  run : ∀ β a w, RepA n D β E H a w → c.wp P (fun e a' w' => ∃ β' E' H', RepA n D β' E' H' a' w' ∧ Ext β H w β' H' w' ∧ K e E' H') a w
theorem Sx.mono {P : Program} {n : Nat} {D : List Deferred} {c : Code} {E : Env} {H : Hp} {K K' : Exit → Env → Hp → Prop} (h : Sx P n D c E H K) (hk : ∀ e E' H', K e E' H' → K' e E' H') : Sx P n D c E H K' :=
  ⟨fun β a w R => wp_mono (h.run β a w R) fun _ _ _ ⟨β', E', H', h1, h2, h3⟩ => ⟨β', E', H', h1, h2, hk _ _ _ h3⟩⟩
def seqK (ih : Env → Hp → (Exit → Env → Hp → Prop) → Prop) (K : Exit → Env → Hp → Prop) (e : Exit) (E : Env) (H : Hp) : Prop :=
  match e with
  | .normal => ih E H K
  | e => K e E H
def blockK (i : Nat) (K : Exit → Env → Hp → Prop) (e : Exit) (E : Env) (H : Hp) : Prop :=
  match e with
  | .exit j => match Nat.beq j i with
    | true => K .normal E H
    | false => K (.exit j) E H
  | e => K e E H
def condC (c : Operand) (ihx ihy : Env → Hp → (Exit → Env → Hp → Prop) → Prop) (E : Env) (H : Hp) (K : Exit → Env → Hp → Prop) : Prop :=
  nd (ev E c) fun s => match s with
    | .v (.bool b) => cnd b (ihx E H K) (ihy E H K)
    | _ => False
def regC (T : List TI) (P : Program) (n : Nat) (D : List Deferred) (i : Nat) (ops : Array Oper) (d : Bool) (E : Env) (H : Hp) (K : Exit → Env → Hp → Prop) : Prop :=
  match d with
  | false => vcOps T P n ops.toList ops.toList E H (K .normal)
  | true => Sx P n D (.region i ops true) E H K
noncomputable def vcC (T : List TI) (P : Program) (n : Nat) (D : List Deferred) (c : Code) : Env → Hp → (Exit → Env → Hp → Prop) → Prop :=
  Code.rec (motive := fun _ => Env → Hp → (Exit → Env → Hp → Prop) → Prop)
    (fun E H K => K .normal E H)
    (fun i ops d => regC T P n D i ops d)
    (fun _ _ ihx ihy E H K => ihx E H (seqK ihy K))
    (fun c _ _ ihx ihy => condC c ihx ihy)
    (fun i _ ih E H K => ih E H (blockK i K))
    (fun body _ E H K => Sx P n D (.loop body) E H K)
    (fun f ps asg body _ _ E H K => Sx P n D (.rangeFunc f ps asg body) E H K)
    (fun i E H K => K (.exit i) E H)
    (fun body _ E H K => Sx P n D (.scope body) E H K)
    (fun _ E H K => K .normal E H)
    (fun l E H K => Sx P n D (.goto l) E H K)
    (fun E H K => K .ret E H)
    (fun why E H K => Sx P n D (.refuse why) E H K)
    c

theorem Sx.of_vc {P : Program} {T : List TI} (hT : TabOk T P) {n : Nat} {D : List Deferred} : ∀ (c : Code) {E : Env} {H : Hp} {K : Exit → Env → Hp → Prop}, vcC T P n D c E H K → Sx P n D c E H K := by
  intro c
  induction c with
  | skip => exact fun h => ⟨fun β a w R => wp_skip ⟨β, _, _, R, Ext.refl _ _ _, h⟩⟩
  | label l => exact fun h => ⟨fun β a w R => wp_label ⟨β, _, _, R, Ext.refl _ _ _, h⟩⟩
  | exit i => exact fun h => ⟨fun β a w R => wp_exit ⟨β, _, _, R, Ext.refl _ _ _, h⟩⟩
  | ret => exact fun h => ⟨fun β a w R => wp_ret ⟨β, _, _, R, Ext.refl _ _ _, h⟩⟩
  | region i ops d =>
    intro E H K h
    have h : regC T P n D i ops d E H K := h
    unfold regC at h
    split at h
    · refine ⟨fun β a w R => wp_region_list ?_⟩
      exact vcOps_sound hT ops.toList R h fun β' E' H' a' w' R' X' hk => ⟨β', E', H', R', X', hk⟩
    · exact h
  | seq x y ihx ihy =>
    intro E H K h
    have h : vcC T P n D x E H (seqK (vcC T P n D y) K) := h
    refine ⟨fun β a w R => wp_seq ?_⟩
    refine wp_mono ((ihx h).run β a w R) ?_
    rintro e a' w' ⟨β', E', H', R', X', hk⟩
    cases e <;> first
      | exact ⟨β', E', H', R', X', hk⟩
      | exact wp_mono ((ihy hk).run β' a' w' R') fun _ _ _ ⟨β2, E2, H2, R2, X2, h2⟩ => ⟨β2, E2, H2, R2, X'.trans X2, h2⟩
  | cond c x y ihx ihy =>
    intro E H K h
    have h : condC c (vcC T P n D x) (vcC T P n D y) E H K := h
    unfold condC at h
    obtain ⟨s, hs, h⟩ := nd_elim h
    split at h
    · rename_i b
      refine ⟨fun β a w R => ?_⟩
      have hd := ev_den R hs
      simp only [Den] at hd
      rcases cnd_elim h with ⟨rfl, h⟩ | ⟨rfl, h⟩
      · exact wp_cond_true hd ((ihx h).run β a w R)
      · exact wp_cond_false hd ((ihy h).run β a w R)
    · exact h.elim
  | block i x ihx =>
    intro E H K h
    have h : vcC T P n D x E H (blockK i K) := h
    refine ⟨fun β a w R => wp_block ?_⟩
    refine wp_mono ((ihx h).run β a w R) ?_
    rintro e a' w' ⟨β', E', H', R', X', hk⟩
    cases e <;> first
      | exact ⟨β', E', H', R', X', hk⟩
      | (rename_i j
         simp only [Exit.inBlock]
         simp only [blockK] at hk
         split at hk
         · rename_i hb
           rw [if_pos (Nat.eq_of_beq_eq_true hb)]
           exact ⟨β', E', H', R', X', hk⟩
         · rename_i hb
           rw [if_neg (Nat.ne_of_beq_eq_false hb)]
           exact ⟨β', E', H', R', X', hk⟩)
  | _ => exact fun h => h
end Go.Sx
