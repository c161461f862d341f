import Derived.Test.YtmjpidjdbofdjaaYI
/- Sy, part J: regions in their order, code; loops. -/
set_option linter.unusedVariables false
set_option linter.unusedSimpArgs false
namespace Go.Sy
open Go
section
variable {P : Program}
/-- One operation that is done, within a region. -/
theorem doC_wp {T : List TI} (hT : TabOk T P) {ro : Option Nat} {n b0 : Nat} {β : Gh} {E : Env} {H : Hp} {a : Act} {w : World} (R : RepA n b0 β E H a w) {o : Oper} {next : Env → Hp → (Env → Hp → Prop) → Prop} {K : Env → Hp → Prop}
    (h : doC T P ro n o next E H K) {nx : Act → World → Prop} {Q : Exit → Act → World → Prop}
    (hk : ∀ β' E' H' a' w', RepA n b0 β' E' H' a' w' → Ext β H w β' H' w' → next E' H' K → nx a' w') : o.wpIn (W0 ro) 0 P a w nx Q := by
  unfold doC at h
  split at h
  · rename_i op c he
    unfold defS at h
    split at h
    case h_2 => exact h.elim
    rename_i f hc
    replace h := nd_elim h
    obtain ⟨s, hs, h⟩ := h
    replace h := nd_elim h
    obtain ⟨as, has, h⟩ := h
    split at h
    case h_2 => exact h.elim
    rename_i g l1 l2
    rw [lf_eq] at h
    obtain ⟨xs, ys, h1, h2, hy⟩ := ev_den R hs
    have hda := evs_den R has
    refine ⟨fun _ _ => trivial, ?_⟩
    show o.uponIn (W0 none) 0 P a nx Q ((o.semAt none a.eval).run P w)
    rw [Oper.semAt_none]
    have hr : (execOp a.eval o).run P w = .ok (.defer { target := .fn g ys.toArray, args := xs.toArray ++ c.args.map a.eval }) w := by
      unfold execOp
      rw [he]
      simp [resolve, hc, hy, Deferred.ofValue, Sem.run_pure]
    rw [hr]
    have R2 : RepA n b0 β ⟨E.ts, .clo g (l1 ++ as) l2 :: E.ds⟩ H { a with defers := { target := .fn g ys.toArray, args := xs.toArray ++ c.args.map a.eval } :: a.defers } w :=
      ⟨R.rep, R.size, .inr ⟨_, _, rfl, ⟨xs ++ c.args.toList.map a.eval, ys, h1.append hda, h2, by congr 1; apply Array.ext'; simp⟩, R.defs⟩, R.env⟩
    obtain ⟨E', hk', RA⟩ := R2.put R2.rep (Ext.refl _ _ _) (s := .v undef) (x := undef) rfl h
    exact hk β E' H _ w RA (Ext.refl _ _ _) hk'
  · rename_i hnd
    refine opC_wp hT R (fun c e => hnd c e) h ?_
    intro β' s y H' w' hd R' X' hk2
    obtain ⟨E', hk', RA⟩ := R.put R' X' hd hk2
    exact hk β' E' H' _ w' RA X' hk'
theorem vcOps_sound {T : List TI} (hT : TabOk T P) {ro : Option Nat} {n : Nat} {ops : Array Oper} {Q : Exit → Act → World → Prop} : ∀ (l : List Oper) (i : Nat) {b0 : Nat} {β : Gh} {E : Env} {H : Hp} {a : Act} {w : World} {K : Env → Hp → Prop},
    (∀ j o, l[j]? = some o → ops[i + j]? = some o) → RepA n b0 β E H a w → vcOps T P ro n ops.toList l E H K → (∀ β' E' H' a' w', RepA n b0 β' E' H' a' w' → Ext β H w β' H' w' → K E' H' → Q .normal a' w') → wpOpsIn (W0 ro) 0 P ops Q (List.range' i l.length) a w
  | [], i, b0, β, E, H, a, w, K, hl, R, h, hQ => hQ β E H a w R (Ext.refl _ _ _) h
  | o :: rest, i, b0, β, E, H, a, w, K, hl, R, h, hQ => by
    have ho : ops[i]? = some o := hl 0 o rfl
    have hl' : ∀ j o', rest[j]? = some o' → ops[i + 1 + j]? = some o' := fun j o' hj => by
      rw [show i + 1 + j = i + (j + 1) by omega]; exact hl (j + 1) o' hj
    rw [List.length_cons, List.range'_succ]
    simp only [wpOpsIn, ho]
    have doit : doC T P ro n o (vcOps T P ro n ops.toList rest) E H K → o.wpIn (W0 ro) 0 P a w (wpOpsIn (W0 ro) 0 P ops Q (List.range' (i + 1) rest.length)) Q := by
      intro h
      refine doC_wp hT R h ?_
      intro β' E' H' a' w' RA X' hk'
      exact vcOps_sound hT rest (i + 1) hl' RA hk' fun β2 E2 H2 a2 w2 R2 X2 h2 => hQ β2 E2 H2 a2 w2 R2 (X'.trans X2) h2
    have skip : put n o.dst (.v undef) E (fun E' => vcOps T P ro n ops.toList rest E' H K) → (∀ f, o.about P w a.eval = some f → (W0 ro).fn f) ∧ wpOpsIn (W0 ro) 0 P ops Q (List.range' (i + 1) rest.length) (a.put o.dst undef) w := by
      intro h
      obtain ⟨E', hk', RA⟩ := R.put R.rep (Ext.refl _ _ _) (s := .v undef) (x := undef) rfl h
      exact ⟨fun _ _ => trivial, vcOps_sound hT rest (i + 1) hl' RA hk' hQ⟩
    rw [vcOps_cons] at h
    unfold stepC at h
    split at h
    · rename_i hg
      rw [if_pos (by simp [Region.wanted, hg])]
      exact doit h
    · rename_i j want hg
      replace h := nd_elim h
      obtain ⟨d, hd, h⟩ := h
      replace h := nd_elim h
      obtain ⟨g, hgt, h⟩ := h
      obtain ⟨y, hy, hdy⟩ := R.env d g hgt
      rw [dstOf_eq] at hd
      have hd' : (ops[j]?).bind (·.dst) = some d := by simpa using hd
      have hyd : yielded ops a.tmps j = match y with | .bool b => some b | _ => none := by
        unfold yielded
        rw [hd']
        simp only [Option.bind_some, hy]
        cases y <;> rfl
      split at h
      · rename_i b
        simp only [Den] at hdy
        subst hdy
        simp only at hyd
        have hw : Region.wanted o (yielded ops a.tmps) = (b == want) := by
          simp only [Region.wanted, hg, hyd]
          cases b <;> cases want <;> rfl
        split at h
        · rcases cnd_elim h with ⟨rfl, h⟩ | ⟨rfl, h⟩
          · rw [if_pos (by rw [hw]; rfl)]; exact doit h
          · rw [if_neg (by rw [hw]; simp)]; exact skip h
        · rcases cnd_elim h with ⟨rfl, h⟩ | ⟨rfl, h⟩
          · rw [if_neg (by rw [hw]; simp)]; exact skip h
          · rw [if_pos (by rw [hw]; rfl)]; exact doit h
      · rename_i ts
        simp only [Den] at hdy
        subst hdy
        simp only at hyd
        rw [if_neg (by simp [Region.wanted, hg, hyd])]
        exact skip h
      · exact h.elim
end

/-! ### Code -/
structure Cd (P : Program) (n : Nat) (ro : Option Nat) (c : Code) (E : Env) (H : Hp) (K : Exit → Env → Hp → Prop) : Prop where
  run : ∀ b0 β a w, RepA n b0 β E H a w → c.wpIn (W0 ro) 0 P (fun e a' w' => ∃ β' E' H', RepA n b0 β' E' H' a' w' ∧ Ext β H w β' H' w' ∧ K e E' H') a w
theorem Cd.mono {P : Program} {n : Nat} {ro : Option Nat} {c : Code} {E : Env} {H : Hp} {K K' : Exit → Env → Hp → Prop} (h : Cd P n ro c E H K) (hk : ∀ e E' H', K e E' H' → K' e E' H') : Cd P n ro c E H K' :=
  ⟨fun b0 β a w R => wpIn_mono (h.run b0 β a w R) fun _ _ _ ⟨β', E', H', h1, h2, h3⟩ => ⟨β', E', H', h1, h2, hk _ _ _ h3⟩⟩
def seqK (ih : Env → Hp → (Exit → Env → Hp → Prop) → Prop) (K : Exit → Env → Hp → Prop) (e : Exit) (E : Env) (H : Hp) : Prop :=
  match e with
  | .normal => ih E H K
  | e => K e E H
def blockK (i : Nat) (K : Exit → Env → Hp → Prop) (e : Exit) (E : Env) (H : Hp) : Prop :=
  match e with
  | .exit j => match Nat.beq j i with
    | true => K .normal E H
    | false => K (.exit j) E H
  | e => K e E H
def condC (c : Operand) (ihx ihy : Env → Hp → (Exit → Env → Hp → Prop) → Prop) (E : Env) (H : Hp) (K : Exit → Env → Hp → Prop) : Prop :=
  nd (ev E c) fun s => match s with
    | .v (.bool b) => cnd b (ihx E H K) (ihy E H K)
    | _ => False
def regC (T : List TI) (P : Program) (n : Nat) (ro : Option Nat) (i : Nat) (ops : Array Oper) (d : Bool) (E : Env) (H : Hp) (K : Exit → Env → Hp → Prop) : Prop :=
  match d with
  | false => vcOps T P ro n ops.toList ops.toList E H (K .normal)
  | true => Cd P n ro (.region i ops true) E H K
noncomputable def vcC (T : List TI) (P : Program) (n : Nat) (ro : Option Nat) (c : Code) : Env → Hp → (Exit → Env → Hp → Prop) → Prop :=
  Code.rec (motive := fun _ => Env → Hp → (Exit → Env → Hp → Prop) → Prop)
    (fun E H K => K .normal E H)
    (fun i ops d => regC T P n ro i ops d)
    (fun _ _ ihx ihy E H K => ihx E H (seqK ihy K))
    (fun c _ _ ihx ihy => condC c ihx ihy)
    (fun i _ ih E H K => ih E H (blockK i K))
    (fun body _ E H K => Cd P n ro (.loop body) E H K)
    (fun f ps asg body _ _ E H K => Cd P n ro (.rangeFunc f ps asg body) E H K)
    (fun i E H K => K (.exit i) E H)
    (fun body _ E H K => Cd P n ro (.scope body) E H K)
    (fun _ E H K => K .normal E H)
    (fun l E H K => Cd P n ro (.goto l) E H K)
    (fun E H K => K .ret E H)
    (fun why E H K => Cd P n ro (.refuse why) E H K)
    c

theorem Cd.of_vc {P : Program} {T : List TI} (hT : TabOk T P) {n : Nat} {ro : Option Nat} : ∀ (c : Code) {E : Env} {H : Hp} {K : Exit → Env → Hp → Prop}, vcC T P n ro c E H K → Cd P n ro c E H K := by
  intro c
  induction c with
  | skip => exact fun h => ⟨fun b0 β a w R => wpIn_skip ⟨β, _, _, R, Ext.refl _ _ _, h⟩⟩
  | label l => exact fun h => ⟨fun b0 β a w R => wpIn_label ⟨β, _, _, R, Ext.refl _ _ _, h⟩⟩
  | exit i => exact fun h => ⟨fun b0 β a w R => wpIn_exit ⟨β, _, _, R, Ext.refl _ _ _, h⟩⟩
  | ret => exact fun h => ⟨fun b0 β a w R => wpIn_ret ⟨β, _, _, R, Ext.refl _ _ _, h⟩⟩
  | region i ops d =>
    intro E H K h
    have h : regC T P n ro i ops d E H K := h
    unfold regC at h
    split at h
    · refine ⟨fun b0 β a w R => wpIn_region ?_⟩
      have := vcOps_sound hT (Q := fun e a' w' => ∃ β' E' H', RepA n b0 β' E' H' a' w' ∧ Ext β H w β' H' w' ∧ K e E' H') ops.toList 0 (ops := ops) (fun j o hj => by simpa using hj) R h fun β' E' H' a' w' R' X' hk => ⟨β', E', H', R', X', hk⟩
      rw [List.range_eq_range']
      simpa using this
    · exact h
  | seq x y ihx ihy =>
    intro E H K h
    have h : vcC T P n ro x E H (seqK (vcC T P n ro y) K) := h
    refine ⟨fun b0 β a w R => wpIn_seq ?_⟩
    refine wpIn_mono ((ihx h).run b0 β a w R) ?_
    rintro e a' w' ⟨β', E', H', R', X', hk⟩
    cases e <;> first
      | exact ⟨β', E', H', R', X', hk⟩
      | exact wpIn_mono ((ihy hk).run b0 β' a' w' R') fun _ _ _ ⟨β2, E2, H2, R2, X2, h2⟩ => ⟨β2, E2, H2, R2, X'.trans X2, h2⟩
  | cond c x y ihx ihy =>
    intro E H K h
    have h : condC c (vcC T P n ro x) (vcC T P n ro y) E H K := h
    unfold condC at h
    obtain ⟨s, hs, h⟩ := nd_elim h
    split at h
    · rename_i b
      refine ⟨fun b0 β a w R => ?_⟩
      have hd := ev_den R hs
      simp only [Den] at hd
      rcases cnd_elim h with ⟨rfl, h⟩ | ⟨rfl, h⟩
      · exact wpIn_cond_true hd ((ihx h).run b0 β a w R)
      · exact wpIn_cond_false hd ((ihy h).run b0 β a w R)
    · exact h.elim
  | block i x ihx =>
    intro E H K h
    have h : vcC T P n ro x E H (blockK i K) := h
    refine ⟨fun b0 β a w R => wpIn_block ?_⟩
    refine wpIn_mono ((ihx h).run b0 β a w R) ?_
    rintro e a' w' ⟨β', E', H', R', X', hk⟩
    cases e <;> first
      | exact ⟨β', E', H', R', X', hk⟩
      | (rename_i j
         simp only [Exit.inBlock]
         simp only [blockK] at hk
         split at hk
         · rename_i hb
           rw [if_pos (Nat.eq_of_beq_eq_true hb)]
           exact ⟨β', E', H', R', X', hk⟩
         · rename_i hb
           rw [if_neg (Nat.ne_of_beq_eq_false hb)]
           exact ⟨β', E', H', R', X', hk⟩)
  | _ => exact fun h => h

/-! ### Loops -/
theorem wpIn_loopG {P : Program} {F : Fence} {n : Nat} {Q : Exit → Act → World → Prop} {a : Act} {w : World} {c : Code} {ι : Type} (I : ι → Act → World → Prop) (μ : ι → Nat) (i0 : ι) (h0 : I i0 a w)
    (round : ∀ i a w, I i a w → c.wpIn F n P (Exit.then (fun a' w' => ∃ i', I i' a' w' ∧ μ i' < μ i) Q) a w) : (Code.loop c).wpIn F n P Q a w := by
  intro b k cs hro hb hr
  have key : ∀ m i a w, μ i = m → I i a w →
      ∃ e a' w', Q e a' w' ∧ ArrivesIn (Machine.fenced P F) P (lone (b.atR a (.code c :: .inLoop c :: k)) cs w) b k cs e a' w' := by
    intro m
    induction m using Nat.strongRecOn with
    | _ m ih =>
      intro i a w hn hI
      obtain ⟨e, a₁, w₁, hq, harr⟩ := round i a w hI b (.inLoop c :: k) cs hro hb hr
      cases e with
      | normal =>
        obtain ⟨i', hI₁, hlt⟩ := hq
        obtain ⟨e₂, a₂, w₂, hq₂, harr₂⟩ := ih (μ i') (hn ▸ hlt) i' a₁ w₁ rfl hI₁
        exact ⟨e₂, a₂, w₂, hq₂, .of_steps (StepsIn.trans harr (.one (fenced_calm hb hr rfl) stepR_inLoop)) harr₂⟩
      | exit id => exact ⟨_, a₁, w₁, hq, .pass (x := .inLoop c) rfl (fun _ _ => .inl (by simp)) harr⟩
      | goto l => exact ⟨_, a₁, w₁, hq, .pass (x := .inLoop c) rfl (fun _ _ => .inl (by simp)) harr⟩
      | ret => exact ⟨_, a₁, w₁, hq, .pass (x := .inLoop c) rfl (fun _ _ => .inl (by simp)) harr⟩
      | panic ch => exact ⟨_, a₁, w₁, hq, .pass (x := .inLoop c) rfl (fun _ _ => .inl (by simp)) harr⟩
      | outgrown => exact ⟨_, a₁, w₁, hq, .pass (x := .inLoop c) rfl (fun _ _ => .inl (by simp)) harr⟩
  obtain ⟨e, a', w', hq, harr⟩ := key _ i0 a w rfl h0
  exact ⟨e, a', w', hq, .of_steps (.one (fenced_calm hb hr rfl) stepR_loop) harr⟩
end Go.Sy

