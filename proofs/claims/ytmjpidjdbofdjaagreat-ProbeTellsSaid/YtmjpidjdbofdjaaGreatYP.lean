import Derived.Test.YtmjpidjdbofdjaaGreatYG
/- Sy, part P: a loop's way back on which rows are handed over: from then on they are values that nobody writes. -/
set_option linter.unusedVariables false
set_option linter.unusedSimpArgs false
namespace Go.Sy
open Go
def subU (H : Hp) : List (Nat × SV) → List (Nat × SV) → Prop
  | [], _ => True
  | (t, s) :: r, E' => match get E' t with
    | some s' => puP H s' s ∧ subU H r E'
    | none => False
theorem subU_ok {β : Gh} {H : Hp} {w : World} (R : Rep β H w) {tmps : Array Value} : ∀ {E E' : List (Nat × SV)}, subU H E E' → EnvOk β E' tmps → EnvOk ⟨β.b, pubG β H w⟩ E tmps
  | [], _, _, _, _, _, h => by simp [get] at h
  | (u, s') :: r, E', hs, k, t, s, h => by
    simp only [subU] at hs
    split at hs
    case h_2 => exact hs.elim
    rename_i s2 hs2
    simp only [get] at h
    split at h
    · rename_i hb
      have hb := Nat.eq_of_beq_eq_true hb
      subst hb
      injection h with h; subst h
      obtain ⟨x, hx, hd⟩ := k _ _ hs2
      exact ⟨x, hx, puP_den R _ _ _ hs.1 hd⟩
    · exact subU_ok R hs.2 k t s h
structure BackU (E : Env) (J : Hp) (E' : Env) (H' : Hp) : Prop where
  env : subU H' E.ts E'.ts
  ds : E.ds = E'.ds
  rows : preR J.rows (frzL H'.rows)
  boxes : subB J.boxes H'.boxes
  nb : J.nb = lenB J.boxes
  cut : (J.nb = H'.nb) ∨ (blwE J.nb E.ts = true ∧ blwL J.nb E.ds = true ∧ blwB J.nb J.boxes = true ∧ blwR J.nb J.rows = true)
theorem RepA.backU {n b0 : Nat} {β : Gh} {E' : Env} {H' : Hp} {a : Act} {w : World} (R : RepA n b0 β E' H' a w) {E : Env} {J : Hp} (B : BackU E J E' H')
    {β0 : Gh} {H0 : Hp} {w0 : World} (X : Ext β0 H0 w0 β H' w) (hnb : β0.b.length ≤ J.nb) :
    ∃ β2, RepA n b0 β2 E J a w ∧ Ext β0 H0 w0 β2 J w := by
  obtain ⟨R1, X1⟩ := R.rep.frz
  have hup : Gle β ⟨β.b, pubG β H' w⟩ := ⟨List.prefix_refl _, pubG_old R.rep⟩
  have hown : owned ⟨β.b, pubG β H' w⟩ ⟨H'.nb, H'.boxes, frzL H'.rows⟩ = β.b := by unfold owned; simp only [frzL_eq]; rw [fm_frz, List.append_nil]
  have R2 : RepA n b0 ⟨β.b, pubG β H' w⟩ ⟨[], E'.ds⟩ ⟨H'.nb, H'.boxes, frzL H'.rows⟩ a w :=
    ⟨R1, R.size, R.defs.mono hup (Nat.le_refl _) (fun b _ hb => ⟨fun hm => hb (by rw [hown] at hm; exact List.mem_append_left _ hm), rfl⟩), fun t s h => by simp [get] at h⟩
  have B2 : Back ⟨[], E.ds⟩ J ⟨[], E'.ds⟩ ⟨H'.nb, H'.boxes, frzL H'.rows⟩ := ⟨trivial, B.ds, B.rows, B.boxes, B.nb, by
    rcases B.cut with h | ⟨h1, h2, h3, h4⟩
    · exact .inl h
    · exact .inr ⟨rfl, h2, h3, h4⟩⟩
  obtain ⟨R3, X3⟩ := R2.back B2 (X.trans X1) hnb
  refine ⟨_, ⟨R3.rep, R3.size, R3.defs, ?_⟩, X3⟩
  have henv := subU_ok R.rep B.env R.env
  rcases B.cut with h1 | ⟨h1, h2, h3, h4⟩
  · have hβ : (Gh.cut ⟨β.b, pubG β H' w⟩ J.nb) = ⟨β.b, pubG β H' w⟩ := by
      simp only [Gh.cut]
      rw [List.take_of_length_le]
      have := R.rep.len
      have := R.rep.nb
      omega
    rw [hβ]; exact henv
  · exact EnvOk.cut (Gh.cut_cut _ _) h1 henv
theorem Cd.loopU {P : Program} {n : Nat} {ro : Option Nat} {c : Code} {E : Env} {H : Hp} {K : Exit → Env → Hp → Prop} {ι : Type} (I : ι → Env) (J : ι → Hp) (μ : ι → Nat) (i0 : ι)
    (h0 : Back (I i0) (J i0) E H) (hnb : ∀ i, (J i).nb = H.nb)
    (step : ∀ i, Cd P n ro c (I i) (J i) fun e E' H' => match e with
      | .normal => ∃ i', μ i' < μ i ∧ (Back (I i') (J i') E' H' ∨ BackU (I i') (J i') E' H')
      | e => K e E' H') : Cd P n ro (.loop c) E H K := by
  refine ⟨fun b0 β a w R => ?_⟩
  obtain ⟨R0, X0⟩ := R.back h0 (Ext.refl β H w) (by rw [hnb, R.rep.nb, R.rep.len]; exact Nat.le_refl _)
  refine wpIn_loopG (fun (p : ι × Gh) a' w' => RepA n b0 p.2 (I p.1) (J p.1) a' w' ∧ Ext β H w p.2 (J p.1) w') (fun p => μ p.1) (i0, _) ⟨R0, X0⟩ ?_
  rintro ⟨i, β1⟩ a1 w1 ⟨R1, X1⟩
  simp only at R1 X1
  refine wpIn_mono ((step i).run b0 β1 a1 w1 R1) ?_
  rintro e a2 w2 ⟨β2, E2, H2, R2, X2, hk⟩
  cases e with
  | normal =>
    obtain ⟨i', hlt, hb⟩ := hk
    have X12 := X1.trans X2
    rcases hb with hb | hb
    · obtain ⟨R3, X3⟩ := R2.back hb X12 (by rw [hnb, R.rep.nb, R.rep.len]; exact Nat.le_refl _)
      exact ⟨(i', _), ⟨R3, X3⟩, hlt⟩
    · obtain ⟨β3, R3, X3⟩ := R2.backU hb X12 (by rw [hnb, R.rep.nb, R.rep.len]; exact Nat.le_refl _)
      exact ⟨(i', β3), ⟨R3, X3⟩, hlt⟩
  | exit j => exact ⟨β2, E2, H2, R2, X1.trans X2, hk⟩
  | goto j => exact ⟨β2, E2, H2, R2, X1.trans X2, hk⟩
  | ret => exact ⟨β2, E2, H2, R2, X1.trans X2, hk⟩
  | panic ch => exact ⟨β2, E2, H2, R2, X1.trans X2, hk⟩
  | outgrown => exact ⟨β2, E2, H2, R2, X1.trans X2, hk⟩
/-- A loop by an invariant that is a state told by an index, and a property of the index; rows may be handed over on the way back. -/
theorem loopPU {P : Program} {T : List TI} (hT : TabOk T P) {n : Nat} {ro : Option Nat} {c : Code} {E : Env} {H : Hp} {K : Exit → Env → Hp → Prop} {ι : Type} (p : ι → Prop) (I : ι → Env) (J : ι → Hp) (μ : ι → Nat) (i0 : ι) (hp : p i0)
    (h0 : Back (I i0) (J i0) E H) (hnb : ∀ i, (J i).nb = H.nb)
    (step : ∀ i, p i → vcC T P n ro c (I i) (J i) fun e E' H' => match e with
      | .normal => ∃ i', p i' ∧ μ i' < μ i ∧ (Back (I i') (J i') E' H' ∨ BackU (I i') (J i') E' H')
      | e => K e E' H') : Cd P n ro (.loop c) E H K :=
  Cd.loopU (fun i : {i : ι // p i} => I i.1) (fun i => J i.1) (fun i => μ i.1) ⟨i0, hp⟩ h0 (fun i => hnb i.1) fun ⟨i, hi⟩ => (Cd.of_vc hT c (step i hi)).mono fun e E' H' h => by
    cases e with
    | normal => obtain ⟨i', h1, h2, h3⟩ := h; exact ⟨⟨i', h1⟩, h2, h3⟩
    | _ => exact h
end Go.Sy

