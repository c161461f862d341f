import Derived.Test.YtmjpidjdbofdjaaGreatYQ
import Derived.RangeFuncRecord
/- Sy, part R: loops over a function. -/
set_option linter.unusedVariables false
set_option linter.unusedSimpArgs false
namespace Go.Sy
open Go
section
variable {P : Program} {T : List TI}
theorem pre_get {l l' : List Nat} {i b : Nat} (h : l <+: l') (hi : l[i]? = some b) : l'[i]? = some b := by
  obtain ⟨t, rfl⟩ := h; rw [List.getElem?_append_left (List.getElem?_eq_some_iff.1 hi).1]; exact hi
def putX (H : Hp) (b : Nat) (x : Bx) (k : Hp → Prop) : Prop := match H with
  | ⟨nb, bs, rs⟩ => lf (bs.set b x) fun bs => k ⟨nb, bs, rs⟩
theorem putX_eq {H : Hp} {b : Nat} {x : Bx} {k : Hp → Prop} (h : putX H b x k) : k { H with boxes := H.boxes.set b x } := by
  cases H; simpa only [putX, lf_eq] using h
def newX (H : Hp) (x : Bx) (k : Nat → Hp → Prop) : Prop := match H with
  | ⟨nb, bs, rs⟩ => lf (bs ++ [x]) fun bs => k nb ⟨nb + 1, bs, rs⟩
theorem newX_eq {H : Hp} {x : Bx} {k : Nat → Hp → Prop} (h : newX H x k) : k H.nb { H with nb := H.nb + 1, boxes := H.boxes ++ [x] } := by
  cases H; simpa only [newX, lf_eq] using h
/-- Yield's arguments in the parameters. -/
def parT (n : Nat) : List Tmp → List SV → List (Nat × SV) → Option (List (Nat × SV))
  | [], [], E => some E
  | t :: r, s :: l, E => match Nat.blt t n with
    | true => parT n r l ((t, s) :: E)
    | false => none
  | _, _, _ => none
theorem parT_ok {β : Gh} {n : Nat} : ∀ {ps : List Tmp} {as : List SV} {E E' : List (Nat × SV)} {xs : List Value} {tmps : Array Value}, parT n ps as E = some E' → DenL β as xs → EnvOk β E tmps → tmps.size = n →
    ps.length = xs.length ∧ ((ps.zip xs).foldl (fun tmps (t, a) => tmps.setIfInBounds t a) tmps).size = n ∧ EnvOk β E' ((ps.zip xs).foldl (fun tmps (t, a) => tmps.setIfInBounds t a) tmps)
  | [], [], E, E', xs, tmps, h, hd, he, hs => by
    simp only [parT, Option.some.injEq] at h
    subst h
    simp only [DenL] at hd
    subst hd
    exact ⟨rfl, hs, he⟩
  | t :: r, s :: l, E, E', xs, tmps, h, hd, he, hs => by
    obtain ⟨y, zs, h1, h2, rfl⟩ := hd
    simp only [parT] at h
    split at h
    case h_2 => cases h
    rename_i hlt
    have hlt : t < n := by rw [Nat.blt_eq] at hlt; exact hlt
    have := parT_ok (tmps := tmps.setIfInBounds t y) h h2 (fun u s' hu => by
      simp only [get] at hu
      split at hu
      · rename_i hb
        injection hu with hu; subst hu
        have hb := Nat.eq_of_beq_eq_true hb
        subst hb
        exact ⟨y, by simp [hs, hlt], h1⟩
      · rename_i hb
        have hb := Nat.ne_of_beq_eq_false hb
        obtain ⟨z, hz, hdz⟩ := he u s' hu
        exact ⟨z, by rw [Array.getElem?_setIfInBounds, if_neg hb]; exact hz, hdz⟩) (by simp [hs])
    exact ⟨by simp [this.1], this.2.1, this.2.2⟩
  | [], _ :: _, _, _, _, _, h, _, _, _ => by simp [parT] at h
  | _ :: _, [], _, _, _, _, h, _, _, _ => by simp [parT] at h
def stOf (L : LoopS) (st : LoopState) (pd : Option Code) : Bx := match L with
  | ⟨_, _, n, E, ps, asg, body⟩ => .lp ⟨st, pd, n, E, ps, asg, body⟩
theorem stOf_eq (L : LoopS) (st : LoopState) (pd : Option Code) : stOf L st pd = .lp { L with st := st, pend := pd } := by cases L; rfl
/-- A round has ended. -/
def endK (i : Nat) (k : SV → Hp → Prop) (e : Exit) (E : Env) (H : Hp) : Prop :=
  nd (nth H.boxes i) fun x => match x with
    | .lp L => match e with
      | .normal => putX H i (stOf L .ready none) (k (.v (.bool true)))
      | .ret => putX H i (stOf L .done (some .ret)) (k (.v (.bool false)))
      | .exit j => putX H i (stOf L .done (some (.exit j))) (k (.v (.bool false)))
      | _ => False
    | _ => False
def begK (T : List TI) (P : Program) (n : Nat) (l i : Nat) (body : Code) (k : SV → Hp → Prop) (e : Exit) (E : Env) (H : Hp) : Prop :=
  match e with
  | .normal => nd (nth H.boxes i) fun x => match x with
    | .lp L => match L.st with
      | .ready => putX H i (stOf L .busy L.pend) fun H => vcC T P n (some l) body E H (endK i k)
      | _ => False
    | _ => False
  | _ => False
def rdC (T : List TI) (P : Program) (i : Nat) (as : List SV) (H : Hp) (k : SV → Hp → Prop) : Prop :=
  nd (nth H.boxes i) fun x => match x with
    | .lp L => nd (parT L.n L.ps.toList as L.E) fun Et => ∀ l : Nat, vcC T P L.n (some l) L.asg ⟨Et, []⟩ H (begK T P L.n l i L.body k)
    | _ => False

theorem lp_put {β : Gh} {w : World} {b : Nat} {L : LoopS} {r : Loop} (h : BxOk β w b (.lp L)) (hr : w.heap[b]? = some (.loop r)) (st : LoopState) (pd : Option Code) :
    BxOk β (w.putObj b (.loop { r with state := st, pending := pd })) b (.lp { L with st := st, pend := pd }) := by
  obtain ⟨r', h1, h2, h3, h4, h5, h6, h7, h8⟩ := h
  rw [hr] at h1
  injection h1 with h1
  injection h1 with h1
  subst h1
  exact ⟨_, World.putObj_heap_same (Array.getElem?_eq_some_iff.1 hr).1, rfl, rfl, h4, h5, h6, h7, h8⟩
theorem Rep.lpSet {β : Gh} {H : Hp} {w : World} (R : Rep β H w) {i b : Nat} {L : LoopS} {r : Loop} (hi : H.boxes[i]? = some (.lp L)) (hb : β.b[i]? = some b) (hr : w.heap[b]? = some (.loop r)) (st : LoopState) (pd : Option Code) :
    Rep β { H with boxes := H.boxes.set i (stOf L st pd) } (w.putObj b (.loop { r with state := st, pending := pd })) ∧ Ext β H w β { H with boxes := H.boxes.set i (stOf L st pd) } (w.putObj b (.loop { r with state := st, pending := pd })) := by
  have hk : BxOk β w b (.lp L) := by
    obtain ⟨b', hb', hk⟩ := R.box_at hi
    rw [hb] at hb'
    injection hb' with hb'
    subst hb'
    exact hk
  refine R.setBx hi hb ⟨rfl, rfl, rfl, by simp [World.putObj]⟩ (fun k hk => World.putObj_heap_other hk) ?_
  rw [stOf_eq]
  exact lp_put hk hr st pd
theorem RdQ.of_vc (hT : TabOk T P) {i : Nat} {as : List SV} {H : Hp} {k : SV → Hp → Prop} (h : rdC T P i as H k) : RdQ P i as H k := by
  unfold rdC at h
  obtain ⟨x, hx, h⟩ := nd_elim h
  rw [nth_eq] at hx
  split at h
  case h_2 => exact h.elim
  rename_i L
  obtain ⟨Et, hEt, h⟩ := nd_elim h
  refine ⟨fun β w l xs R hl hd => ?_⟩
  obtain ⟨b, hb, hbk⟩ := R.box_at hx
  rw [hl] at hb
  injection hb with hb
  subst hb
  have hbk0 := hbk
  obtain ⟨r, h1, h2, h3, h4, h5, h6, h7, h8⟩ := hbk
  obtain ⟨g1, g2, g3⟩ := parT_ok hEt hd h8 h7
  refine ⟨r, h1, by rw [h4]; simpa using g1, ?_⟩
  have e0 : (r.params.zip xs.toArray).foldl (fun tmps (t, a) => tmps.setIfInBounds t a) r.tmps = (L.ps.toList.zip xs).foldl (fun tmps (t, a) => tmps.setIfInBounds t a) r.tmps := by
    rw [h4]
    rw [← Array.foldl_toList]
    simp
  rw [e0, h5, h6]
  refine roundIn_of_wpIn trivial ?_
  have RA : RepA L.n 0 β ⟨Et, []⟩ H { tmps := (L.ps.toList.zip xs).foldl (fun tmps (t, a) => tmps.setIfInBounds t a) r.tmps, defers := [] } w := ⟨R, g2, ⟨rfl, Nat.zero_le _⟩, g3⟩
  refine wpIn_mono ((Cd.of_vc hT _ (h l)).run 0 β _ w RA) ?_
  rintro e a1 w1 ⟨β1, E1, H1, R1, X1, hk1⟩
  unfold begK at hk1
  split at hk1
  case h_2 => exact hk1.elim
  obtain ⟨x1, hx1, hk1⟩ := nd_elim hk1
  rw [nth_eq] at hx1
  split at hk1
  case h_2 => exact hk1.elim
  rename_i L1
  split at hk1
  case h_2 => exact hk1.elim
  rename_i hst
  have hk2 := putX_eq hk1
  have hl1 : β1.b[i]? = some l := pre_get X1.pre.1 hl
  obtain ⟨b1, hb1, hbk1⟩ := R1.rep.box_at hx1
  rw [hl1] at hb1
  injection hb1 with hb1
  subst hb1
  obtain ⟨r1, i1, i2, i3, i4⟩ := hbk1
  have hbr := run_beginRound (P := P) i1 (i2.trans hst)
  obtain ⟨R2, X2⟩ := R1.rep.lpSet hx1 hl1 i1 .busy L1.pend
  have e1 : ({ r1 with state := .busy } : Loop) = { r1 with state := .busy, pending := L1.pend } := by rw [← i3]
  rw [e1] at hbr
  refine ⟨_, hbr, ?_⟩
  have RA2 : RepA L.n 0 β1 E1 _ a1 _ := ⟨R2, R1.size, R1.defs.ext X2, R1.env⟩
  refine wpIn_mono ((Cd.of_vc hT _ hk2).run 0 β1 _ _ RA2) ?_
  rintro e a3 w3 ⟨β3, E3, H3, R3, X3, hk3⟩
  unfold endK at hk3
  obtain ⟨x3, hx3, hk3⟩ := nd_elim hk3
  rw [nth_eq] at hx3
  split at hk3
  case h_2 => exact hk3.elim
  rename_i L3
  have hl3 : β3.b[i]? = some l := pre_get X3.pre.1 hl1
  obtain ⟨b3, hb3, hbk3⟩ := R3.rep.box_at hx3
  rw [hl3] at hb3
  injection hb3 with hb3
  subst hb3
  obtain ⟨r3, j1, j2⟩ := hbk3
  have hend := fun jump => run_endRound (P := P) jump j1
  have fin : ∀ (jump : Option Code), putX H3 i (stOf L3 (if jump.isNone then .ready else .done) jump) (k (.v (.bool jump.isNone))) →
      ∃ v w', (Instr.endRound l jump).run P w3 = .ok v w' ∧ ∃ y, Ending.returned v = .returned y ∧ ∃ s H' β', Den β' s y ∧ Rep β' H' w' ∧ Ext β H w β' H' w' ∧ k s H' := by
    intro jump hj
    have hj := putX_eq hj
    obtain ⟨R4, X4⟩ := R3.rep.lpSet hx3 hl3 j1 (if jump.isNone then .ready else .done) jump
    exact ⟨_, _, hend jump, _, rfl, .v (.bool jump.isNone), _, β3, rfl, R4, ((X1.trans X2).trans X3).trans X4, hj⟩
  cases e with
  | normal => exact fin none hk3
  | ret => exact fin (some .ret) hk3
  | exit j => exact fin (some (.exit j)) hk3
  | _ => exact hk3.elim

/-- A block that is nobody's. -/
theorem Rep.junk {β : Gh} {H : Hp} {w : World} (R : Rep β H w) (o : Obj) : Rep β H (w.alloc o) ∧ Ext β H w β H (w.alloc o) := by
  have hsz : w.heap.size ≤ (w.alloc o).heap.size := by simp
  refine ⟨⟨R.len, R.nb, fun i x b hi hb => ?_, fun r hr => ?_, R.nd, fun a v hg => ?_⟩, ⟨Gle.refl _, ⟨rfl, rfl, rfl, hsz, fun k hk _ => Go.RowKit.Below.heap_alloc _ _ _ hk⟩, fun _ h => .inl h, fun _ _ h => .inl h⟩⟩
  · have h1 := R.box i x b hi hb
    exact h1.mono (Gle.refl _) hsz (Go.RowKit.Below.heap_alloc _ _ _ h1.lt)
  · exact (R.row r hr).mono (Gle.refl _) hsz fun b hb => Go.RowKit.Below.heap_alloc _ _ _ ((R.row r hr).lt hb)
  · obtain ⟨h1, h2⟩ := R.g a v hg
    exact ⟨by rw [World.cell?_of_block (w := w) (Go.RowKit.Below.heap_alloc _ _ _ (World.block_lt_of_cell? w a h1))]; exact h1, h2⟩
/-- Behind the call. -/
def jmpK (E : Env) (K : Exit → Env → Hp → Prop) (i : Nat) (H : Hp) : Prop :=
  nd (nth H.boxes i) fun x => match x with
    | .lp L => match L.st with
      | .busy => False
      | _ => putX H i (stOf L .exhausted L.pend) fun H => match L.pend with
        | none => K .normal E H
        | some .ret => K .ret E H
        | some (.exit j) => K (.exit j) E H
        | _ => False
    | _ => False
def rfC (P : Program) (n : Nat) (g : Operand) (ps : Array Tmp) (asg body : Code) (ts : List (Nat × SV)) (E : Env) (H : Hp) (K : Exit → Env → Hp → Prop) : Prop :=
  nd (ev E g) fun s => match s with
    | .clo (.func f) a cs => newX H (.lp ⟨.ready, none, n, ts, ps, asg, body⟩) fun i H1 => lf (a ++ .yld i :: cs) fun l => (∃ fn, P.funcs[f]? = some fn ∧ okFn fn 0 = true) ∧ Tr P f l H1 fun _ H2 => jmpK E K i H2
    | _ => False
theorem Cd.rangeFunc {n : Nat} {g : Operand} {ps : Array Tmp} {asg body : Code} {E : Env} {H : Hp} {K : Exit → Env → Hp → Prop} (ts : List (Nat × SV)) (hts : subE ts E.ts) (h : rfC P n g ps asg body ts E H K) : Cd P n none (.rangeFunc g ps asg body) E H K := by
  unfold rfC at h
  obtain ⟨s, hs, h⟩ := nd_elim h
  split at h
  case h_2 => exact h.elim
  rename_i f as cs
  have h := newX_eq h
  rw [lf_eq] at h
  obtain ⟨⟨fd0, hf0, hok0⟩, h⟩ := h
  simp only [okFn, Bool.and_eq_true, Bool.not_eq_true'] at hok0
  refine ⟨fun b0 β a w R => wpIn_rangeFunc fun fn _ => ?_⟩
  obtain ⟨xs, ys, hx, hy, hev⟩ := ev_den R hs
  obtain ⟨R1, X1⟩ := R.rep.junk (.deferred (some []))
  have hnew : w.heap.size ∉ owned β H := fun h => Nat.lt_irrefl _ (R.rep.blt _ h)
  obtain ⟨R2, X2⟩ := R1.newBx (x := .lp ⟨.ready, none, n, ts, ps, asg, body⟩) (o := .loop { state := .ready, pending := none, fn, tmps := a.tmps, params := ps, assign := asg, body, defers := w.heap.size })
    ⟨_, heap_alloc_new _ _, rfl, rfl, rfl, rfl, rfl, R.size, (subE_ok hts R.env).mono (show Gle β ⟨β.b ++ [(w.alloc (.deferred (some []))).heap.size], β.g⟩ from ⟨List.prefix_append _ _, fun _ _ h => h⟩)⟩
  have hsz1 : (w.alloc (.deferred (some []))).heap.size = w.heap.size + 1 := by simp
  have hyd : Den ⟨β.b ++ [(w.alloc (.deferred (some []))).heap.size], β.g⟩ (.yld H.nb) (.func (.yield (w.heap.size + 1)) #[] #[]) := by
    refine ⟨w.heap.size + 1, ?_, rfl⟩
    rw [hsz1, R.rep.nb, ← R.rep.len]
    simp
  have hdl : DenL ⟨β.b ++ [(w.alloc (.deferred (some []))).heap.size], β.g⟩ (as ++ .yld H.nb :: cs) (xs ++ .func (.yield (w.heap.size + 1)) #[] #[] :: ys) :=
    (DenL.mono X2.pre _ _ hx).append ⟨_, _, hyd, DenL.mono X2.pre _ _ hy, rfl⟩
  rcases h.run _ _ _ R2 hdl with ⟨⟨fd, hf, hb, hn⟩, hrun⟩ | ⟨x, w', hx', _⟩
  case inr =>
    exfalso
    rw [run_callFunc hf0 hok0.1.1 hok0.1.2] at hx'
    injection hx' with hx' _
    cases hx'
  refine ⟨w.heap.size + 1, [markOf w.heap.size], ((w.alloc (.deferred (some []))).alloc (.loop { state := .ready, pending := none, fn, tmps := a.tmps, params := ps, assign := asg, body, defers := w.heap.size })),
    { target := .fn (.func f) ys.toArray, args := xs.toArray ++ #[.func (.yield (w.heap.size + 1)) #[] #[]] }, ((w.alloc (.deferred (some []))).alloc (.loop { state := .ready, pending := none, fn, tmps := a.tmps, params := ps, assign := asg, body, defers := w.heap.size })), f, (xs ++ .func (.yield (w.heap.size + 1)) #[] #[] :: ys).toArray, ((w.alloc (.deferred (some []))).alloc (.loop { state := .ready, pending := none, fn, tmps := a.tmps, params := ps, assign := asg, body, defers := w.heap.size })), run_enterLoop_outer _ _ _ _ _, ?_, fun _ _ => trivial, ?_, (fun h => by cases h), callsIn_W0.2 (hrun.mono ?_)⟩
  · have e2 : a.eval (.const (.func (.yield (w.heap.size + 1)) #[] #[])) = .func (.yield (w.heap.size + 1)) #[] #[] := rfl
    simp [resolve, hev, Deferred.ofValue, Sem.run_pure, e2]
  · simp only [invoke]
    rw [show xs.toArray ++ #[Value.func (.yield (w.heap.size + 1)) #[] #[]] ++ ys.toArray = (xs ++ .func (.yield (w.heap.size + 1)) #[] #[] :: ys).toArray by apply Array.ext'; simp]
    exact run_callFunc hf hb hn _ _
  rintro e w3 ⟨v, rfl, r, H3, β3, hdr, R3, X3, hk⟩
  unfold jmpK at hk
  obtain ⟨x, hx3, hk⟩ := nd_elim hk
  rw [nth_eq] at hx3
  split at hk
  case h_2 => exact hk.elim
  rename_i L
  have hi2 : (β.b ++ [(w.alloc (.deferred (some []))).heap.size])[H.nb]? = some (w.heap.size + 1) := by
    rw [hsz1, R.rep.nb, ← R.rep.len]
    simp
  have hi3 : β3.b[H.nb]? = some (w.heap.size + 1) := pre_get X3.pre.1 hi2
  obtain ⟨b3, hb3, hbk⟩ := R3.box_at hx3
  rw [hi3] at hb3
  injection hb3 with hb3
  subst hb3
  obtain ⟨r3, j1, j2, j3, j4⟩ := hbk
  have main : L.st ≠ .busy → (putX H3 H.nb (stOf L .exhausted L.pend) fun H => match L.pend with
        | none => K .normal E H
        | some .ret => K .ret E H
        | some (.exit j) => K (.exit j) E H
        | _ => False) → rangePost (W0 none) 0 P (w.heap.size + 1) (fun e a' w' => ∃ β' E' H', RepA n b0 β' E' H' a' w' ∧ Ext β H w β' H' w' ∧ K e E' H') { a with defers := [markOf w.heap.size] ++ a.defers } (.returned v) w3 := by
    intro hnb hk
    have hk := putX_eq hk
    obtain ⟨R4, X4⟩ := R3.lpSet hx3 hi3 j1 .exhausted L.pend
    have e1 : ({ r3 with state := .exhausted } : Loop) = { r3 with state := .exhausted, pending := L.pend } := by rw [← j3]
    have hend := run_endLoop (P := P) j1 (fun h => hnb (j2 ▸ h))
    rw [e1, j3] at hend
    have X : Ext β H w β3 { H3 with boxes := H3.boxes.set H.nb (stOf L .exhausted L.pend) } (w3.putObj (w.heap.size + 1) (.loop { r3 with state := .exhausted, pending := L.pend })) := ((X1.trans X2).trans X3).trans X4
    have hDf : DefOk b0 β3 (owned β3 { H3 with boxes := H3.boxes.set H.nb (stOf L .exhausted L.pend) }) (w3.putObj (w.heap.size + 1) (.loop { r3 with state := .exhausted, pending := L.pend })) E.ds (markOf w.heap.size :: a.defers) := by
      have h0 := R.defs.ext X
      have X' := (X2.trans X3).trans X4
      have hlt : w.heap.size < (w.alloc (.deferred (some []))).heap.size := by omega
      refine .inl ⟨w.heap.size, rfl, R.defs.le, ?_, ?_, ?_, h0⟩
      · intro hm
        rcases X'.own _ hm with h | h
        · exact hnew h
        · omega
      · exact (X'.fr.block _ hlt hnew).trans (heap_alloc_new _ _)
      · intro hm
        have : ∀ {r : List Deferred} {ds : List SV}, DefOk b0 β (owned β H) w ds r → markOf w.heap.size ∉ r := by
          intro r
          induction r with
          | nil => intro ds _; simp
          | cons d r ih =>
            intro ds k
            rcases k with ⟨m, rfl, _, _, k3, _, k5⟩ | ⟨s, ds', _, k2, k3⟩
            · intro hm
              rcases List.mem_cons.1 hm with hm | hm
              · have : m = w.heap.size := by simp only [markOf] at hm; injection hm with hm; injection hm with hm; exact hm.symm
                have := (Array.getElem?_eq_some_iff.1 k3).1
                omega
              · exact ih k5 hm
            · intro hm
              rcases List.mem_cons.1 hm with hm | hm
              · subst hm
                cases s <;> simp only [DenD] at k2
                obtain ⟨_, _, _, _, h⟩ := k2
                simp only [markOf] at h
                injection h with h
                cases h
              · exact ih k3 hm
        exact this R.defs hm
    have RA : RepA n b0 β3 E { H3 with boxes := H3.boxes.set H.nb (stOf L .exhausted L.pend) } { a with defers := [markOf w.heap.size] ++ a.defers } (w3.putObj (w.heap.size + 1) (.loop { r3 with state := .exhausted, pending := L.pend })) :=
      ⟨R4, R.size, hDf, R.env.mono X.pre⟩
    refine ⟨L.pend, _, hend, ?_⟩
    split at hk
    · rename_i hp
      rw [hp] at RA X ⊢
      rw [hp] at hk
      exact ⟨β3, E, _, RA, X, hk⟩
    · rename_i hp
      rw [hp] at RA X ⊢
      rw [hp] at hk
      exact wpIn_ret ⟨β3, E, _, RA, X, hk⟩
    · rename_i j hp
      rw [hp] at RA X ⊢
      rw [hp] at hk
      exact wpIn_exit ⟨β3, E, _, RA, X, hk⟩
    · exact hk.elim
  split at hk
  · exact hk.elim
  · rename_i hnb
    exact main (fun h => hnb h) hk
end
end Go.Sy

