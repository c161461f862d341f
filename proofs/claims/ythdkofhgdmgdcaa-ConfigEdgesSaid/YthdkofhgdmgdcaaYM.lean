import Derived.Test.YthdkofhgdmgdcaaYL
/- Sy, part M: functions from their bodies; contracts that only tell values. -/
set_option linter.unusedVariables false
set_option linter.unusedSimpArgs false
namespace Go.Sy
open Go

def bodyOf (fn : Func) : Code := match fn.body with | some c => c | none => .skip
def okFn (fn : Func) (m : Nat) : Bool := fn.body.isSome && !(fn.name == "runtime.NumGoroutine") && Nat.ble m fn.ntmps
/-- What is asked where a body is left. -/
def retK (T : List TI) (fn : Func) (Q : SV → Hp → Prop) : Exit → Env → Hp → Prop := fun e E' H' => match e with
  | .normal => match E'.ds with | [] => resL T fn.results.toList E' H' fun l => Q (pack l) H' | _ :: _ => False
  | .ret => match E'.ds with | [] => resL T fn.results.toList E' H' fun l => Q (pack l) H' | _ :: _ => False
  | _ => False
section
variable {P : Program}
theorem res_fin {T : List TI} (hT : TabOk T P) {fn : Func} {n b0 : Nat} {β : Gh} {E : Env} {H : Hp} {a : Act} {w : World} (R : RepA n b0 β E H a w) {Q : SV → Prop} (h : resL T fn.results.toList E H fun l => Q (pack l)) :
    ∃ v r, (results fn a.tmps).run P w = .ok v w ∧ Den β r v ∧ Q r := by
  obtain ⟨ss, ys, h1, h2, h3⟩ := resL_run hT R fn.results.toList _ h
  refine ⟨if h : ys.toArray.size = 1 then ys.toArray[0] else .tuple ys.toArray, pack ss, ?_, ?_, h1⟩
  · rw [results_eq, Sem.run_bind, Array.mapM_eq_mapM_toList]
    simp only [Sem.run_map, Sem.run_bind, h3]
    rfl
  · have hl := h2.length
    unfold pack
    split
    · rename_i s
      obtain ⟨y, zs, h4, h5, rfl⟩ := h2
      simp only [DenL] at h5
      subst h5
      simpa using h4
    · rename_i hne
      rw [dif_neg]
      · exact ⟨ys, h2, rfl⟩
      · intro h1
        have : ss.length = 1 := by rw [← hl]; simpa using h1
        obtain ⟨s, rfl⟩ := List.length_eq_one_iff.1 this
        exact hne s rfl
theorem Tr.of_cd {T : List TI} (hT : TabOk T P) {f : FuncId} {fn : Func} {args : List SV} {H : Hp} {Q : SV → Hp → Prop} (hf : P.funcs[f]? = some fn) (hok : okFn fn args.length = true)
    (h : Cd P fn.ntmps none (bodyOf fn) ⟨argsTs 0 args, []⟩ H (retK T fn Q)) : Tr P f args H Q := by
  simp only [okFn, Bool.and_eq_true, Bool.not_eq_true'] at hok
  obtain ⟨⟨h1, h2⟩, h3⟩ := hok
  obtain ⟨c, hc⟩ := Option.isSome_iff_exists.1 h1
  have hbc : bodyOf fn = c := by simp [bodyOf, hc]
  rw [hbc] at h
  refine ⟨fun β w xs R hd => .inl ⟨⟨fn, hf, h1, h2⟩, ?_⟩⟩
  have hlen : args.length ≤ fn.ntmps := Nat.le_of_ble_eq_true h3
  have hxl := hd.length
  rw [← callsIn_W0 (ro := none) (n := 0)]
  refine callsIn_of_wp_marks hf hc trivial ?_
  have RA : RepA fn.ntmps w.heap.size β ⟨argsTs 0 args, []⟩ H { tmps := xs.toArray ++ Array.replicate (fn.ntmps - xs.toArray.size) undef, defers := [] } w := by
    refine ⟨R, by simp; omega, ⟨rfl, Nat.le_refl _⟩, fun t s ht => ?_⟩
    obtain ⟨_, h1⟩ := argsTs_get ht
    obtain ⟨y, hy, hdy⟩ := hd.get h1
    refine ⟨y, ?_, hdy⟩
    rw [Array.getElem?_append_left]
    · simpa using hy
    · have := (List.getElem?_eq_some_iff.1 hy).1; simpa using this
  refine wpIn_mono (h.run _ β _ w RA) ?_
  rintro e a' w' ⟨β', E', H', R', X', hk⟩
  have fin : (match E'.ds with | [] => resL T fn.results.toList E' H' fun l => Q (pack l) H' | _ :: _ => False) →
      LeavesInM (W0 none) 0 P fn a'.tmps (fun e w' => ∃ x, e = .returned x ∧ ∃ r H' β', Den β' r x ∧ Rep β' H' w' ∧ Ext β H w β' H' w' ∧ Q r H') a'.defers .returning w' := by
    intro h
    split at h
    case h_2 => exact h.elim
    rename_i hds
    have hdefs := R'.defs
    rw [hds] at hdefs
    refine leaves_marks R'.size R'.env a'.defers w' R'.rep hdefs fun w2 R2 e1 e2 e3 e4 e5 e6 => ?_
    have RA2 : RepA fn.ntmps w.heap.size β' ⟨E'.ts, []⟩ H' { a' with defers := [] } w2 := ⟨R2, R'.size, ⟨rfl, by rw [e4]; exact R'.defs.le⟩, R'.env⟩
    obtain ⟨v, r, g1, g2, g3⟩ := res_fin (E := ⟨E'.ts, []⟩) hT RA2 (Q := fun r => Q r H') (by
      have : E' = ⟨E'.ts, []⟩ := by cases E'; simp only at hds; rw [hds]
      rw [← this]; exact h)
    refine ⟨v, g1, v, rfl, r, H', β', g2, R2, ⟨X'.pre, ⟨e1.trans X'.fr.os, e2.trans X'.fr.tape, e3.trans X'.fr.output, by rw [e4]; exact X'.fr.size, fun k hk hn => (e5 k hk).trans (X'.fr.block k hk hn)⟩, X'.own, X'.gn⟩, g3⟩
  cases e with
  | normal => exact fin hk
  | ret => exact fin hk
  | _ => exact hk.elim
theorem Tr.of_body {T : List TI} (hT : TabOk T P) {f : FuncId} {fn : Func} {args : List SV} {H : Hp} {Q : SV → Hp → Prop} (hf : P.funcs[f]? = some fn) (hok : okFn fn args.length = true)
    (h : vcC T P fn.ntmps none (bodyOf fn) ⟨argsTs 0 args, []⟩ H (retK T fn Q)) : Tr P f args H Q := Tr.of_cd hT hf hok (Cd.of_vc hT _ h)
end

/-! ### What is handed over where a call ends -/
mutual
/-- A value that is told in another way; rows are handed over. -/
def puP (H : Hp) : SV → SV → Prop
  | .v (.slice none 0 0), t => match t with
    | .lst _ _ es => es = []
    | t => SV.v (.slice none 0 0) = t
  | .lst f sz es, t => match t with
    | .lst f' sz' es' => impB f' f = true ∧ sz = sz' ∧ es = es'
    | t => SV.lst f sz es = t
  | .own ri A n c, t => match t with
    | .lst f sz es => f = false ∧ match nth H.rows ri with
      | some r => (r.A = A ∧ r.n = n ∧ r.c = c) ∧ r.sz = sz ∧ r.es = es
      | none => False
    | t => SV.own ri A n c = t
  | .agg l, t => match t with
    | .agg l' => puPL H l l'
    | t => SV.agg l = t
  | .tup l, t => match t with
    | .tup l' => puPL H l l'
    | t => SV.tup l = t
  | s, t => s = t
def puPL (H : Hp) : List SV → List SV → Prop
  | [], t => t = []
  | s :: r, t => match t with
    | [] => False
    | s' :: r' => puP H s s' ∧ puPL H r r'
end
/-- All rows are handed over: what is known then. -/
noncomputable def pubG (β : Gh) (H : Hp) (w : World) : Addr → Option Value := fun a => if a.block ∈ H.rows.filterMap Row.blk then w.cell? a else β.g a
section
variable {β : Gh} {H : Hp} {w : World}
theorem pubG_old (R : Rep β H w) : ∀ a v, β.g a = some v → pubG β H w a = some v := by
  intro a v h
  unfold pubG
  rw [if_neg fun hm => (R.g a v h).2 (List.mem_append_right _ hm)]; exact h
theorem pubG_cell (R : Rep β H w) : ∀ a v, pubG β H w a = some v → w.cell? a = some v := by
  intro a v h
  unfold pubG at h
  split at h
  · exact h
  · exact (R.g a v h).1
theorem row_pub (R : Rep β H w) {r : Row} (hr : r ∈ H.rows) : ∃ ws, DenL β r.es ws ∧ SlOk (pubG β H w) false r.sz r.A r.n r.c ws := by
  obtain ⟨ws, h1, h2, h3, h4⟩ := R.row r hr
  refine ⟨ws, h1, ?_⟩
  split at h4
  · exact h4.mono (pubG_old R)
  · rename_i hf
    obtain ⟨⟨h5, h6⟩, h7⟩ := h4
    have h6' := h6
    rcases h6 with ⟨h6, h8⟩ | ⟨g, cap, cur, e1, _, g1, g2, g3, _⟩
    · injection h6 with e1 e2 e3
      exact ⟨h3, by omega, by rw [e3]; exact Nat.zero_le _, fun _ => ⟨h8, e3⟩, (fun h => by cases h), h2, h7, fun a ha => by rw [e1] at ha; cases ha⟩
    · injection e1 with e1 e2 e3
      refine ⟨h3, by rw [e3]; exact g2, by rw [e3]; exact g3, (fun h => by rw [e1] at h; cases h), (fun h => by cases h), h2, h7, fun a ha j u hu => ?_⟩
      rw [e1] at ha
      injection ha with ha
      subst ha
      have hb : r.blk = some g := by simp only [Row.blk, hf, e1, Option.map_some]
      have hc := World.ownsRow.cells (v := .slice r.A r.n r.c) (n := r.n) (size := r.sz) (e := r.e) (base := 0) ⟨h5, h6'⟩ (g := g) (by rw [e1]; rfl) j u hu
      unfold pubG
      rw [if_pos (by rw [add_block]; exact List.mem_filterMap.2 ⟨r, hr, hb⟩)]
      exact hc
mutual
theorem puP_den (R : Rep β H w) : ∀ (s t : SV) (y : Value), puP H s t → Den β s y → Den ⟨β.b, pubG β H w⟩ t y
  | s, t, y, h, hd => by
    have up : Gle β ⟨β.b, pubG β H w⟩ := ⟨List.prefix_refl _, pubG_old R⟩
    cases s with
    | v x =>
      unfold puP at h
      split at h
      · rename_i heq
        injection heq with heq
        subst heq
        simp only [Den] at hd
        subst hd
        split at h
        · subst h; exact ⟨none, 0, 0, [], rfl, slOk_nil _ _ _, rfl⟩
        · subst h; rfl
      all_goals first
        | (rename_i heq; cases heq)
        | (subst h; exact hd)
    | lst f sz es =>
      simp only [puP] at h
      split at h
      · obtain ⟨h1, rfl, rfl⟩ := h
        obtain ⟨A, n, c, ws, g1, g2, g3⟩ := Den.mono up _ _ hd
        rename_i f'
        exact ⟨A, n, c, ws, g1, ⟨g2.len, g2.le, g2.mx, g2.nil, fun hf => g2.full (by subst hf; simpa [impB] using h1), g2.sz, g2.one, g2.mem⟩, g3⟩
      · subst h; exact Den.mono up _ _ hd
    | own ri A n c =>
      simp only [puP] at h
      split at h
      · obtain ⟨rfl, h⟩ := h
        split at h
        case h_2 => exact h.elim
        rename_i r hr
        obtain ⟨⟨rfl, rfl, rfl⟩, rfl, rfl⟩ := h
        rw [nth_eq] at hr
        obtain ⟨ws, g1, g2⟩ := row_pub R (List.mem_of_getElem? hr)
        exact ⟨_, _, _, ws, DenL.mono up _ _ g1, g2, hd⟩
      · subst h; exact hd
    | agg l =>
      simp only [puP] at h
      split at h
      · obtain ⟨xs, h1, h2⟩ := hd
        exact ⟨xs, puPL_den R l _ xs h h1, h2⟩
      · subst h; exact Den.mono up _ _ hd
    | tup l =>
      simp only [puP] at h
      split at h
      · obtain ⟨xs, h1, h2⟩ := hd
        exact ⟨xs, puPL_den R l _ xs h h1, h2⟩
      · subst h; exact Den.mono up _ _ hd
    | _ => simp only [puP] at h; subst h; exact Den.mono up _ _ hd
theorem puPL_den (R : Rep β H w) : ∀ (l m : List SV) (ys : List Value), puPL H l m → DenL β l ys → DenL ⟨β.b, pubG β H w⟩ m ys
  | [], m, ys, h, hd => by simp only [puPL] at h; subst h; exact hd
  | s :: r, m, ys, h, hd => by
    simp only [puPL] at h
    split at h
    · exact h.elim
    · obtain ⟨y, zs, h1, h2, h3⟩ := hd
      exact ⟨y, zs, puP_den R s _ y h.1 h1, puPL_den R r _ zs h.2 h2, h3⟩
end
end
/-- A call that only tells a value, from whatever state. -/
def Fc (P : Program) (f : FuncId) (args : List SV) (r0 : SV) : Prop := ∀ H, Tr P f args H fun r H' => r = r0 ∧ H' = H
section
variable {P : Program}
theorem Fc.mk {f : FuncId} {args : List SV} {r0 : SV} (h : Tr P f args ⟨0, [], []⟩ fun r H' => puP H' r r0) (ha : blwL 0 args = true) (hr : blw 0 r0 = true) : Fc P f args r0 := by
  refine fun H => ⟨fun β w xs R hd => ?_⟩
  have R0 : Rep ⟨[], β.g⟩ ⟨0, [], []⟩ w := ⟨rfl, rfl, fun i cs b h => by simp at h, fun r hr => by simp at hr, by simp [owned], fun a v hg => ⟨(R.g a v hg).1, by simp [owned]⟩⟩
  have hd0 : DenL ⟨[], β.g⟩ args xs := DenL.cut (m := 0) (show Cut 0 β ⟨[], β.g⟩ from ⟨fun i hi => absurd hi (Nat.not_lt_zero i), fun _ _ h => h⟩) _ _ ha hd
  refine (h.run _ w xs R0 hd0).mono ?_
  rintro x w' ⟨r, H', β', h1, h2, h3, h4⟩
  have hpd := puP_den h2 _ _ _ h4 h1
  have hfr : ∀ k, k < w.heap.size → w'.heap[k]? = w.heap[k]? := fun k hk => h3.fr.block k hk (by simp [owned])
  have hup : Gle β ⟨β.b, pubG β' H' w'⟩ := ⟨List.prefix_refl _, fun a v h => pubG_old h2 a v (h3.pre.2 a v h)⟩
  have hgn : ∀ a v, pubG β' H' w' a = some v → β.g a = some v ∨ w.heap.size ≤ a.block := by
    intro a v h
    unfold pubG at h
    split at h
    · rename_i hm
      rcases h3.own a.block (List.mem_append_right _ hm) with h5 | h5
      · simp [owned] at h5
      · exact .inr h5
    · rcases h3.gn a v h with h5 | h5 | h5
      · exact .inl h5
      · simp [owned] at h5
      · exact .inr h5
  have hO := R.blt
  refine ⟨r0, H, ⟨β.b, pubG β' H' w'⟩, ?_, ⟨R.len, R.nb, ?_, ?_, R.nd, ?_⟩, ⟨hup, ⟨h3.fr.os, h3.fr.tape, h3.fr.output, h3.fr.size, fun k hk _ => hfr k hk⟩, fun _ h => .inl h, fun a v h => ?_⟩, rfl, rfl⟩
  · exact Den.cut (m := 0) (show Cut 0 ⟨β'.b, pubG β' H' w'⟩ ⟨β.b, pubG β' H' w'⟩ from ⟨fun i hi => absurd hi (Nat.not_lt_zero i), fun _ _ h => h⟩) _ _ hr hpd
  · intro i y b hi hb
    have h5 := R.box i y b hi hb
    exact h5.mono hup h3.fr.size (hfr b h5.lt)
  · intro r' hr'
    exact (R.row r' hr').mono hup h3.fr.size fun b hb => hfr b ((R.row r' hr').lt hb)
  · intro a v hg
    refine ⟨pubG_cell h2 a v hg, fun hm => ?_⟩
    rcases hgn a v hg with h5 | h5
    · exact (R.g a v h5).2 hm
    · have := hO _ hm; omega
  · rcases hgn a v h with h5 | h5
    · exact .inl h5
    · exact .inr (.inr h5)
theorem Fc.use {f : FuncId} {args args' : List SV} {r0 : SV} {H : Hp} {K : SV → Hp → Prop} (h : Fc P f args' r0) (hl : lePL args args') (hk : K r0 H) : Tr P f args H K :=
  ⟨fun β w xs R hd => ((h H).run β w xs R (lePL_den _ _ _ hl hd)).mono fun x w' ⟨r, H', β', h1, h2, h3, h4, h5⟩ => ⟨r, H', β', h1, h2, h3, by rw [h4, h5]; exact hk⟩⟩
theorem Fc.le {f : FuncId} {args : List SV} {r0 r1 : SV} (h : Fc P f args r0) (hl : leP r0 r1) : Fc P f args r1 := fun H =>
  ⟨fun β w xs R hd => ((h H).run β w xs R hd).mono fun x w' ⟨r, H', β', h1, h2, h3, h4, h5⟩ => ⟨r1, H', β', leP_den _ _ _ hl (h4 ▸ h1), h2, h3, rfl, h5⟩⟩
/-- From a body. -/
theorem Fc.of_body {T : List TI} (hT : TabOk T P) {f : FuncId} {fn : Func} {args : List SV} {r0 : SV} (hf : P.funcs[f]? = some fn) (hok : okFn fn args.length = true) (ha : blwL 0 args = true) (hr : blw 0 r0 = true)
    (h : vcC T P fn.ntmps none (bodyOf fn) ⟨argsTs 0 args, []⟩ ⟨0, [], []⟩ (retK T fn fun r H' => puP H' r r0)) : Fc P f args r0 := Fc.mk (Tr.of_body hT hf hok h) ha hr
end
end Go.Sy

