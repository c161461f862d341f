import Derived.Test.YthdkofhgdmgdcaaYW
/- Sy, part X: calls that were deferred, made where a function is left. -/
set_option linter.unusedVariables false
set_option linter.unusedSimpArgs false
namespace Go.Sy
open Go
section
variable {P : Program}
/-- A call that was deferred, from a state (its frame's mode is told by u). -/
structure TrD (P : Program) (f : FuncId) (args : List SV) (H : Hp) (Q : Hp → Prop) : Prop where
  run : ∀ β w xs u, Rep β H w → DenL β args xs → CallsDIn (W0 none) 0 P f xs.toArray u w fun e u' w' => u' = u ∧ ∃ x, e = .returned x ∧
    ∃ H' β', Rep β' H' w' ∧ Ext β H w β' H' w' ∧ Q H'
/-- A mark is taken in. -/
theorem mark_taken {b0 : Nat} {β0 β : Gh} {H0 H : Hp} {w0 w : World} {m : Nat} {r : List Deferred} {ds : List SV} (R : Rep β H w) (X : Ext β0 H0 w0 β H w) (hb0 : b0 = w0.heap.size)
    (h0 : b0 ≤ m) (h2 : m ∉ owned β H) (h3 : w.heap[m]? = some (.deferred (some []))) (h4 : markOf m ∉ r) (h5 : DefOk b0 β (owned β H) w ds r) :
    (Instr.takeDeferred m).run P w = .ok [] (w.putObj m (.deferred none)) ∧ Rep β H (w.putObj m (.deferred none)) ∧ Ext β0 H0 w0 β H (w.putObj m (.deferred none)) ∧ DefOk b0 β (owned β H) (w.putObj m (.deferred none)) ds r := by
  have hlt := (Array.getElem?_eq_some_iff.1 h3).1
  have hoth : ∀ k, k ≠ m → (w.putObj m (.deferred none)).heap[k]? = w.heap[k]? := fun k hk => World.putObj_heap_other hk
  have hne : ∀ {b}, b ∈ owned β H → b ≠ m := fun hb e => h2 (e ▸ hb)
  refine ⟨run_takeDeferred h3, ⟨R.len, R.nb, fun i x b hi hb => ?_, fun r hr => ?_, R.nd, fun a v hg => ?_⟩, ⟨X.pre, ⟨X.fr.os, X.fr.tape, X.fr.output, by rw [World.putObj_size]; exact X.fr.size, fun k hk hn => ?_⟩, X.own, X.gn⟩, ?_⟩
  · exact (R.box i x b hi hb).mono (Gle.refl _) (by simp) (hoth b (hne (List.mem_append_left _ (List.mem_of_getElem? hb))))
  · exact (R.row r hr).mono (Gle.refl _) (by simp) fun b hb => hoth b (hne (List.mem_append_right _ (List.mem_filterMap.2 ⟨r, hr, hb⟩)))
  · obtain ⟨g1, g2⟩ := R.g a v hg
    refine ⟨?_, g2⟩
    have : a.block ≠ m := by
      intro e
      unfold World.cell? at g1
      rw [e, h3] at g1
      cases g1
    rw [World.cell?_of_block (w := w) (hoth a.block this)]; exact g1
  · rw [hoth k (by omega)]; exact X.fr.block k hk hn
  · have : ∀ {r : List Deferred} {ds : List SV}, markOf m ∉ r → DefOk b0 β (owned β H) w ds r → DefOk b0 β (owned β H) (w.putObj m (.deferred none)) ds r := by
      intro r
      induction r with
      | nil => exact fun _ k => ⟨k.1, by simpa using k.2⟩
      | cons d r ih =>
        intro ds hm k
        have hm' : markOf m ∉ r := fun h => hm (List.mem_cons_of_mem _ h)
        rcases k with ⟨m2, rfl, k0, k2, k3, k4, k5⟩ | ⟨s, ds', k1, k2, k3⟩
        · have hmm : m2 ≠ m := fun e => hm (by rw [e]; exact List.mem_cons_self ..)
          exact .inl ⟨m2, rfl, k0, k2, (hoth m2 hmm).trans k3, k4, ih hm' k5⟩
        · exact .inr ⟨s, ds', k1, k2, ih hm' k3⟩
    exact this h4 h5
/-- What is asked of the deferred calls, the last one first. -/
def leave1 (P : Program) (s : SV) (k : Hp → Prop) (H : Hp) : Prop :=
  match s with
  | .clo (.func g) a cs => lf (a ++ cs) fun l => (∃ fn, P.funcs[g]? = some fn ∧ okFn fn 0 = true) ∧ TrD P g l H k
  | _ => False
noncomputable def leaveK (P : Program) (ds : List SV) : (Hp → Prop) → Hp → Prop :=
  List.rec (motive := fun _ => (Hp → Prop) → Hp → Prop) (fun k H => k H) (fun s _ ih k H => leave1 P s (fun H' => ih k H') H) ds
theorem leaveK_cons {s : SV} {ds : List SV} {k : Hp → Prop} {H : Hp} (h : leaveK P (s :: ds) k H) :
    ∃ g a cs, s = .clo (.func g) a cs ∧ (∃ fn, P.funcs[g]? = some fn ∧ okFn fn 0 = true) ∧ TrD P g (a ++ cs) H fun H' => leaveK P ds k H' := by
  have h' : leave1 P s (fun H' => leaveK P ds k H') H := h
  clear h
  cases s <;> try exact h'.elim
  rename_i f a cs
  cases f <;> try exact h'.elim
  rename_i g
  have h' : lf (a ++ cs) fun l => (∃ fn, P.funcs[g]? = some fn ∧ okFn fn 0 = true) ∧ TrD P g l H fun H' => leaveK P ds k H' := h'
  rw [lf_eq] at h'
  exact ⟨g, a, cs, rfl, h'⟩
theorem leaves_defs {fn : Func} {b0 : Nat} {E : List (Nat × SV)} {β0 : Gh} {H0 : Hp} {w0 : World} {tmps : Array Value} {Φ : Ending → World → Prop} {k : Hp → Prop} (hb0 : b0 = w0.heap.size)
    (fin : ∀ β H w, Rep β H w → Ext β0 H0 w0 β H w → EnvOk β E tmps → k H → ∃ v, (results fn tmps).run P w = .ok v w ∧ Φ (.returned v) w) :
    ∀ (r : List Deferred) (ds : List SV) (β : Gh) (H : Hp) (w : World), Rep β H w → Ext β0 H0 w0 β H w → EnvOk β E tmps → DefOk b0 β (owned β H) w ds r → leaveK P ds k H → LeavesInM (W0 none) 0 P fn tmps Φ r .returning w
  | [], ds, β, H, w, R, X, he, hd, h => by
    obtain rfl := hd.1
    obtain ⟨v, h1, h2⟩ := fin β H w R X he h
    exact ⟨v, h1, h2⟩
  | d :: r, ds, β, H, w, R, X, he, hd, h => by
    rcases hd with ⟨m, rfl, h0, h2, h3, h4, h5⟩ | ⟨s, ds', rfl, h2, h3⟩
    · obtain ⟨t1, t2, t3, t4⟩ := mark_taken (P := P) R X hb0 h0 h2 h3 h4 h5
      exact ⟨by simp, .inl ⟨m, _, rfl, t1, leaves_defs hb0 fin r ds β H _ t2 t3 he t4 h⟩⟩
    · obtain ⟨g, a, cs, hs, hh⟩ := leaveK_cons h
      clear h
      subst hs
      obtain ⟨⟨fd, hf, hok⟩, h⟩ := hh
      simp only [okFn, Bool.and_eq_true, Bool.not_eq_true'] at hok
      obtain ⟨xs, ys, g1, g2, rfl⟩ := h2
      refine ⟨by simp, .inr ⟨(fun h => by cases h), .func g, ys.toArray, g, (xs ++ ys).toArray, rfl, ?_, fun _ _ => trivial, ?_⟩⟩
      · simp only [invoke]
        rw [show xs.toArray ++ ys.toArray = (xs ++ ys).toArray by simp]
        exact run_callFunc hf hok.1.1 hok.1.2 _ _
      · refine (h.run β w _ .returning R (g1.append g2)).mono ?_
        rintro e u' w' ⟨rfl, x, rfl, H', β', R', X', hk⟩
        exact leaves_defs hb0 fin r ds' β' H' w' R' (X.trans X') (he.mono X'.pre) (h3.ext X') hk
/-- What is asked where a body is left that has deferred calls. -/
noncomputable def retDK (T : List TI) (P : Program) (fn : Func) (Q : SV → Hp → Prop) : Exit → Env → Hp → Prop := fun e E' H' => match e with
  | .normal => leaveK P E'.ds (fun H2 => resL T fn.results.toList ⟨E'.ts, []⟩ H2 fun l => Q (pack l) H2) H'
  | .ret => leaveK P E'.ds (fun H2 => resL T fn.results.toList ⟨E'.ts, []⟩ H2 fun l => Q (pack l) H2) H'
  | _ => False
theorem Tr.of_cdD {T : List TI} (hT : TabOk T P) {f : FuncId} {fn : Func} {args : List SV} {H : Hp} {Q : SV → Hp → Prop} (hf : P.funcs[f]? = some fn) (hok : okFn fn args.length = true)
    (h : Cd P fn.ntmps none (bodyOf fn) ⟨argsTs 0 args, []⟩ H (retDK T P fn Q)) : Tr P f args H Q := by
  simp only [okFn, Bool.and_eq_true, Bool.not_eq_true'] at hok
  obtain ⟨⟨h1, h2⟩, h3⟩ := hok
  obtain ⟨c, hc⟩ := Option.isSome_iff_exists.1 h1
  have hbc : bodyOf fn = c := by simp [bodyOf, hc]
  rw [hbc] at h
  refine ⟨fun β w xs R hd => .inl ⟨⟨fn, hf, h1, h2⟩, ?_⟩⟩
  have hlen : args.length ≤ fn.ntmps := Nat.le_of_ble_eq_true h3
  have hxl := hd.length
  rw [← callsIn_W0 (ro := none) (n := 0)]
  refine callsIn_of_wp_marks hf hc trivial ?_
  have RA : RepA fn.ntmps w.heap.size β ⟨argsTs 0 args, []⟩ H { tmps := xs.toArray ++ Array.replicate (fn.ntmps - xs.toArray.size) undef, defers := [] } w := by
    refine ⟨R, by simp; omega, ⟨rfl, Nat.le_refl _⟩, fun t s ht => ?_⟩
    obtain ⟨_, h1⟩ := argsTs_get ht
    obtain ⟨y, hy, hdy⟩ := hd.get h1
    refine ⟨y, ?_, hdy⟩
    rw [Array.getElem?_append_left]
    · simpa using hy
    · have := (List.getElem?_eq_some_iff.1 hy).1; simpa using this
  refine wpIn_mono (h.run _ β _ w RA) ?_
  rintro e a' w' ⟨β', E', H', R', X', hk⟩
  have fin : leaveK P E'.ds (fun H2 => resL T fn.results.toList ⟨E'.ts, []⟩ H2 fun l => Q (pack l) H2) H' →
      LeavesInM (W0 none) 0 P fn a'.tmps (fun e w' => ∃ x, e = .returned x ∧ ∃ r H' β', Den β' r x ∧ Rep β' H' w' ∧ Ext β H w β' H' w' ∧ Q r H') a'.defers .returning w' := by
    intro h
    refine leaves_defs (β0 := β) (H0 := H) (w0 := w) (E := E'.ts) rfl (fun β2 H2 w2 R2 X2 he2 hk2 => ?_) a'.defers E'.ds β' H' w' R'.rep X' R'.env R'.defs h
    have RA2 : RepA fn.ntmps w2.heap.size β2 ⟨E'.ts, []⟩ H2 { a' with defers := [] } w2 := ⟨R2, R'.size, ⟨rfl, Nat.le_refl _⟩, he2⟩
    obtain ⟨v, r, g1, g2, g3⟩ := res_fin (E := ⟨E'.ts, []⟩) hT RA2 (Q := fun r => Q r H2) hk2
    exact ⟨v, g1, v, rfl, r, H2, β2, g2, R2, X2, g3⟩
  cases e with
  | normal => exact fin hk
  | ret => exact fin hk
  | _ => exact hk.elim
theorem Tr.of_bodyD {T : List TI} (hT : TabOk T P) {f : FuncId} {fn : Func} {args : List SV} {H : Hp} {Q : SV → Hp → Prop} (hf : P.funcs[f]? = some fn) (hok : okFn fn args.length = true)
    (h : vcC T P fn.ntmps none (bodyOf fn) ⟨argsTs 0 args, []⟩ H (retDK T P fn Q)) : Tr P f args H Q := Tr.of_cdD hT hf hok (Cd.of_vc hT _ h)

/-- Marks alone are taken in, step by step. -/
theorem marks_steps {b0 : Nat} {β0 : Gh} {H0 : Hp} {w0 : World} (hb0 : b0 = w0.heap.size) : ∀ (r : List Deferred) (β : Gh) (H : Hp) (w : World) (fr : Frame) (cs : List Frame), Rep β H w → Ext β0 H0 w0 β H w → DefOk b0 β (owned β H) w [] r → fr.mode = .returning → fr.defers = r →
    ∃ w', Rep β H w' ∧ Ext β0 H0 w0 β H w' ∧ StepsIn (Machine.fenced P (W0 none)) P (lone fr cs w) (lone { fr with defers := [] } cs w')
  | [], β, H, w, fr, cs, R, X, hd, hm, hr => by
    refine ⟨w, R, X, ?_⟩
    have : ({ fr with defers := [] } : Frame) = fr := by rw [← hr]
    rw [this]
    exact StepsIn.refl _
  | d :: r, β, H, w, fr, cs, R, X, hd, hm, hr => by
    rcases hd with ⟨m, rfl, h0, h2, h3, h4, h5⟩ | ⟨s, ds', h1, _⟩
    · obtain ⟨t1, t2, t3, t4⟩ := mark_taken (P := P) R X hb0 h0 h2 h3 h4 h5
      have h1 := step_collected (cs := cs) (by rw [hm]; simp) hr rfl t1
      have i1 : (lone fr cs w).fenced P (W0 none) := fenced_out (n := 0) trivial (W0_room _ _) (by rw [hm]; simp) hr (fun g hg => trivial)
      obtain ⟨w', R', X', S⟩ := marks_steps hb0 r β H _ { fr with defers := [] ++ r } cs t2 t3 t4 hm rfl
      exact ⟨w', R', X', .head i1 h1 S⟩
    · cases h1
/-- A function that defers nothing, entered as a deferred call. -/
theorem TrD.of_cd {T : List TI} (hT : TabOk T P) {f : FuncId} {fn : Func} {args : List SV} {H : Hp} {Q : Hp → Prop} (hf : P.funcs[f]? = some fn) (hok : okFn fn args.length = true)
    (h : Cd P fn.ntmps none (bodyOf fn) ⟨argsTs 0 args, []⟩ H (retK T fn fun _ H' => Q H')) : TrD P f args H Q := by
  simp only [okFn, Bool.and_eq_true, Bool.not_eq_true'] at hok
  obtain ⟨⟨h1, h2⟩, h3⟩ := hok
  obtain ⟨c, hc⟩ := Option.isSome_iff_exists.1 h1
  have hbc : bodyOf fn = c := by simp [bodyOf, hc]
  rw [hbc] at h
  refine ⟨fun β w xs u R hd => ⟨trivial, fun c₀ cs hu hr => ?_⟩⟩
  have hlen : args.length ≤ fn.ntmps := Nat.le_of_ble_eq_true h3
  have hxl := hd.length
  have RA : RepA fn.ntmps w.heap.size β ⟨argsTs 0 args, []⟩ H { tmps := xs.toArray ++ Array.replicate (fn.ntmps - xs.toArray.size) undef, defers := [] } w := by
    refine ⟨R, by simp; omega, ⟨rfl, Nat.le_refl _⟩, fun t s ht => ?_⟩
    obtain ⟨_, h1⟩ := argsTs_get ht
    obtain ⟨y, hy, hdy⟩ := hd.get h1
    refine ⟨y, ?_, hdy⟩
    rw [Array.getElem?_append_left]
    · simpa using hy
    · have := (List.getElem?_eq_some_iff.1 hy).1; simpa using this
  let b : Frame := { (default : Frame) with fn := f, kind := .deferred, roundOf := none }
  have henter : Frame.enter P f xs.toArray .deferred =
      b.atR { tmps := xs.toArray ++ Array.replicate (fn.ntmps - xs.toArray.size) undef, defers := [] } [.code c] := by
    simp [Frame.enter, Frame.atR, hf, hc, b]
  have hcc : ({ c₀ with mode := u } : Frame) = c₀ := by subst hu; rfl
  obtain ⟨e, a', w', ⟨β', E', H', R', X', hk⟩, harr⟩ := (h.run _ β _ w RA) b [] (c₀ :: cs) rfl trivial hr
  rw [← henter] at harr
  have fin : ∀ todo, (match E'.ds with | [] => resL T fn.results.toList E' H' fun l => Q H' | _ :: _ => False) → StepsIn (Machine.fenced P (W0 none)) P (lone (Frame.enter P f xs.toArray .deferred) (c₀ :: cs) w) (lone { b.atR a' todo with mode := .returning } (c₀ :: cs) w') →
      ∃ e u' w' fr, (u' = u ∧ ∃ x, e = .returned x ∧ ∃ H' β', Rep β' H' w' ∧ Ext β H w β' H' w' ∧ Q H') ∧
        ComesIn (Machine.fenced P (W0 none)) P (lone (Frame.enter P f xs.toArray .deferred) (c₀ :: cs) w) (lone fr ({ c₀ with mode := u' } :: cs) w') e ∧ fr.kind = .deferred ∧ fr.fn = f ∧ fr.going P w' e := by
    intro todo h hs
    split at h
    case h_2 => exact h.elim
    rename_i hds
    have hdefs := R'.defs
    rw [hds] at hdefs
    obtain ⟨w2, R2, X2, S⟩ := marks_steps (P := P) (β0 := β) (H0 := H) (w0 := w) rfl a'.defers β' H' w' { b.atR a' todo with mode := .returning } (c₀ :: cs) R'.rep X' hdefs rfl rfl
    have RA2 : RepA fn.ntmps w2.heap.size β' ⟨E'.ts, []⟩ H' { a' with defers := [] } w2 := ⟨R2, R'.size, ⟨rfl, Nat.le_refl _⟩, R'.env⟩
    obtain ⟨v, r, g1, g2, g3⟩ := res_fin (E := ⟨E'.ts, []⟩) hT RA2 (Q := fun r => Q H') (by
      have : E' = ⟨E'.ts, []⟩ := by cases E'; simp only at hds; rw [hds]
      rw [← this]; exact h)
    exact ⟨.returned v, u, w2, _, ⟨rfl, v, rfl, H', β', R2, X2, g3⟩, (by rw [hcc]; exact StepsIn.trans hs S), rfl, rfl, rfl, rfl, fn, hf, g1⟩
  cases e with
  | normal => exact fin [] hk (StepsIn.trans harr (.one (fenced_calm (fr := b.atR a' []) trivial hr rfl) (stepR_end rfl)))
  | ret =>
    obtain ⟨todo, hs⟩ := harr.1 rfl
    exact fin todo hk hs
  | _ => exact hk.elim
theorem TrD.of_body {T : List TI} (hT : TabOk T P) {f : FuncId} {fn : Func} {args : List SV} {H : Hp} {Q : Hp → Prop} (hf : P.funcs[f]? = some fn) (hok : okFn fn args.length = true)
    (h : vcC T P fn.ntmps none (bodyOf fn) ⟨argsTs 0 args, []⟩ H (retK T fn fun _ H' => Q H')) : TrD P f args H Q := TrD.of_cd hT hf hok (Cd.of_vc hT _ h)
end
end Go.Sy

