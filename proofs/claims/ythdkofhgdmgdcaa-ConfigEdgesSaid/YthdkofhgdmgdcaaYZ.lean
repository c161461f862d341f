import Derived.Test.YthdkofhgdmgdcaaYX
import Derived.Laws.LoneSync
/- Sy, part Z: the library's atomics, and its marks. -/
set_option linter.unusedVariables false
set_option linter.unusedSimpArgs false
namespace Go.Sy
open Go
section
variable {P : Program} {β : Gh} {H : Hp} {w : World}
/-- A cell of a box, read. -/
theorem Rep.cellAt (R : Rep β H w) {i o : Nat} {cs : List SV} {x : Value} (hi : nth H.boxes i = some (.c cs)) (ho : nth cs o = some (.v x)) (hc : x.oneCell' = true) :
    ∃ b xs t, β.b[i]? = some b ∧ DenL β cs xs ∧ w.heap[b]? = some (Obj.cells xs.toArray t (0, 0)) ∧ xs[o]? = some x ∧ w.cell? ⟨b, o, none⟩ = some x ∧ w.frozen? ⟨b, o, none⟩ = false := by
  rw [nth_eq] at hi ho
  obtain ⟨b, hb, hk⟩ := R.box_at hi
  obtain ⟨xs, t, h1, h2⟩ := hk
  obtain ⟨y, hy, hd⟩ := h1.get ho
  simp only [Den] at hd
  subst hd
  refine ⟨b, xs, t, hb, h1, h2, hy, ?_, ?_⟩
  · simp [World.cell?, h2, hy]
  · simp [World.frozen?, h2]
theorem Rep.cellSet (R : Rep β H w) {i o b : Nat} {cs : List SV} {xs : List Value} {t : TypeId} (hi : nth H.boxes i = some (.c cs)) (hb : β.b[i]? = some b) (hd : DenL β cs xs) (hh : w.heap[b]? = some (Obj.cells xs.toArray t (0, 0))) (y : Value) :
    Rep β { H with boxes := H.boxes.set i (.c (cs.set o (.v y))) } (w.setCell ⟨b, o, none⟩ y) ∧ Ext β H w β { H with boxes := H.boxes.set i (.c (cs.set o (.v y))) } (w.setCell ⟨b, o, none⟩ y) := by
  rw [nth_eq] at hi
  have hlt := (Array.getElem?_eq_some_iff.1 hh).1
  refine R.setBx hi hb ⟨rfl, rfl, rfl, by simp⟩ (fun k hk => heap_setCell_other w _ k y hk) ⟨xs.set o y, t, DenL.set o hd rfl, ?_⟩
  rw [heap_setCell_same w b o xs.toArray t y hh]
  simp
structure Ext0 (P : Program) (f : FuncId) (e : Array Value → Sem Value) : Prop where
  ex : ∃ fn, P.funcs[f]? = some fn ∧ (fn.name == "runtime.NumGoroutine") = false ∧ fn.body.isNone = true ∧ Extern.findNext fn = none ∧ Extern.find fn = some e
theorem Tr.atLd {f : FuncId} {k : IntKind} (h : Ext0 P f (Extern.Atomic.loadT (.int k))) {i o : Nat} {cs : List SV} {n : Int} (hi : nth H.boxes i = some (.c cs)) (ho : nth cs o = some (.v (.int k n))) {K : SV → Hp → Prop} (hk : K (.v (.int k n)) H) : Tr P f [.loc i o] H K := by
  obtain ⟨fn, h1, h2, h3, h4, h5⟩ := h.ex
  refine ⟨fun β w xs R hd => .inr ?_⟩
  obtain ⟨y, zs, ⟨b, hb, rfl⟩, hz, rfl⟩ := hd
  simp only [DenL] at hz
  subst hz
  obtain ⟨b', xs, t, hb', g1, g2, g3, g4, g5⟩ := R.cellAt hi ho rfl
  rw [hb] at hb'; injection hb' with hb'; subst hb'
  exact ⟨_, _, run_call_load h1 h2 h3 h4 k h5 g4, .v (.int k n), H, β, rfl, R, Ext.refl _ _ _, hk⟩
theorem Tr.atSt {f : FuncId} {k k' : IntKind} (h : Ext0 P f Extern.Atomic.storeT) {i o : Nat} {cs : List SV} {n y : Int} (hi : nth H.boxes i = some (.c cs)) (ho : nth cs o = some (.v (.int k' n))) {K : SV → Hp → Prop}
    (hk : K (.tup []) { H with boxes := H.boxes.set i (.c (cs.set o (.v (.int k y)))) }) : Tr P f [.loc i o, .v (.int k y)] H K := by
  obtain ⟨fn, h1, h2, h3, h4, h5⟩ := h.ex
  refine ⟨fun β w xs R hd => .inr ?_⟩
  obtain ⟨y1, zs, ⟨b, hb, rfl⟩, ⟨y2, zs2, hy2, hz, rfl⟩, rfl⟩ := hd
  simp only [DenL, Den] at hz hy2
  subst hz; subst hy2
  obtain ⟨b', xs, t, hb', g1, g2, g3, g4, g5⟩ := R.cellAt hi ho rfl
  rw [hb] at hb'; injection hb' with hb'; subst hb'
  obtain ⟨R', X'⟩ := R.cellSet (o := o) hi hb g1 g2 (.int k y)
  exact ⟨_, _, run_call_store h1 h2 h3 h4 h5 g4 g5, .tup [], _, β, ⟨[], rfl, rfl⟩, R', X', hk⟩
theorem Tr.atCas {f : FuncId} {k : IntKind} (h : Ext0 P f (Extern.Atomic.casT (.int k))) {i o : Nat} {cs : List SV} {x y : Int} (hi : nth H.boxes i = some (.c cs)) (ho : nth cs o = some (.v (.int k x))) {K : SV → Hp → Prop}
    (hk : K (.v (.bool true)) { H with boxes := H.boxes.set i (.c (cs.set o (.v (.int k y)))) }) : Tr P f [.loc i o, .v (.int k x), .v (.int k y)] H K := by
  obtain ⟨fn, h1, h2, h3, h4, h5⟩ := h.ex
  refine ⟨fun β w xs R hd => .inr ?_⟩
  obtain ⟨y1, zs, ⟨b, hb, rfl⟩, ⟨y2, zs2, hy2, ⟨y3, zs3, hy3, hz, rfl⟩, rfl⟩, rfl⟩ := hd
  simp only [DenL, Den] at hz hy2 hy3
  subst hz; subst hy2; subst hy3
  obtain ⟨b', xs, t, hb', g1, g2, g3, g4, g5⟩ := R.cellAt hi ho rfl
  rw [hb] at hb'; injection hb' with hb'; subst hb'
  obtain ⟨R', X'⟩ := R.cellSet (o := o) hi hb g1 g2 (.int k y)
  exact ⟨_, _, run_call_cas_hit h1 h2 h3 h4 k h5 g4 g5, .v (.bool true), _, β, rfl, R', X', hk⟩
theorem Tr.atAdd {f : FuncId} {k : IntKind} (h : Ext0 P f (Extern.Atomic.update (Op.intArith .add) k true)) {i o : Nat} {cs : List SV} {x y : Int} (hi : nth H.boxes i = some (.c cs)) (ho : nth cs o = some (.v (.int k x))) {K : SV → Hp → Prop}
    (hk : K (.v (.int k (k.wrap (x + y)))) { H with boxes := H.boxes.set i (.c (cs.set o (.v (.int k (k.wrap (x + y)))))) }) : Tr P f [.loc i o, .v (.int k y)] H K := by
  obtain ⟨fn, h1, h2, h3, h4, h5⟩ := h.ex
  refine ⟨fun β w xs R hd => .inr ?_⟩
  obtain ⟨y1, zs, ⟨b, hb, rfl⟩, ⟨y2, zs2, hy2, hz, rfl⟩, rfl⟩ := hd
  simp only [DenL, Den] at hz hy2
  subst hz; subst hy2
  obtain ⟨b', xs, t, hb', g1, g2, g3, g4, g5⟩ := R.cellAt hi ho rfl
  rw [hb] at hb'; injection hb' with hb'; subst hb'
  obtain ⟨R', X'⟩ := R.cellSet (o := o) hi hb g1 g2 (.int k (k.wrap (x + y)))
  exact ⟨_, _, run_call_add h1 h2 h3 h4 k h5 (s := k.wrap (x + y)) g4 g5 (by simp [Op.intArith]), .v (.int k (k.wrap (x + y))), _, β, rfl, R', X', hk⟩
theorem Tr.mark0 {f : FuncId} {m : Mark} (h : Ext0 P f (fun _ => do mark m; pure Extern.Race.none_)) {K : SV → Hp → Prop} (hk : K (.tup []) H) : Tr P f [] H K := by
  obtain ⟨fn, h1, h2, h3, h4, h5⟩ := h.ex
  refine ⟨fun β w xs R hd => .inr ?_⟩
  simp only [DenL] at hd
  subst hd
  exact ⟨_, _, run_call_mark0 h1 h2 h3 h4 m h5 w, .tup [], H, β, ⟨[], rfl, rfl⟩, R, Ext.refl _ _ _, hk⟩
theorem Tr.marked {f : FuncId} {m : Addr → Mark} (h : Ext0 P f (Extern.Race.marked m)) {i o : Nat} {K : SV → Hp → Prop} (hk : K (.tup []) H) : Tr P f [.loc i o] H K := by
  obtain ⟨fn, h1, h2, h3, h4, h5⟩ := h.ex
  refine ⟨fun β w xs R hd => .inr ?_⟩
  obtain ⟨y, zs, ⟨b, hb, rfl⟩, hz, rfl⟩ := hd
  simp only [DenL] at hz
  subst hz
  exact ⟨_, _, run_call_marked h1 h2 h3 h4 m h5 _ w, .tup [], H, β, ⟨[], rfl, rfl⟩, R, Ext.refl _ _ _, hk⟩
end
end Go.Sy

