import Derived.Test.YtmjpidjdbofdjaaYO
/- Sy, part P: the rule for a region that draws its order, proved. -/
set_option linter.unusedVariables false
set_option linter.unusedSimpArgs false
namespace Go.Sy
open Go

theorem Rep.drew {β : Gh} {H : Hp} {w : World} (R : Rep β H w) : Rep β H { w with drawn := w.drawn + 1 } :=
  ⟨R.len, R.nb, R.box, R.row, R.nd, R.g⟩
theorem Ext.drew (β : Gh) (H : Hp) (w : World) : Ext β H w β H { w with drawn := w.drawn + 1 } :=
  ⟨Gle.refl _, ⟨rfl, rfl, rfl, Nat.le_refl _, fun _ _ _ => rfl⟩, fun _ h => .inl h, fun _ _ h => .inl h⟩
section
variable {P : Program} {T : List TI}
/-- What the text's order tells of each operation. -/
structure TextOk (T : List TI) (P : Program) (ops : List Oper) (Em : List (Nat × SV)) (Ds : List SV) (σ : List SV) (Hs : List Hp) : Prop where
  quiet : ∀ (i : Nat) (o : Oper) (s : SV) (H : Hp), ops[i]? = some o → effO o = false → σ[i]? = some s → Hs[stg ops i]? = some H → ∀ k' : SV → Prop, k' s → stepQ T P ops o ⟨depTs ops σ (bnds o.after.toList) Em, Ds⟩ H k'
  eff : ∀ (i : Nat) (o : Oper) (s : SV) (H : Hp), ops[i]? = some o → effO o = true → σ[i]? = some s → Hs[stg ops i]? = some H → ∃ H', Hs[stg ops i + 1]? = some H' ∧ ∀ k' : SV → Hp → Prop, k' s H' → opC T P o ⟨depTs ops σ (bnds o.after.toList) Em, Ds⟩ H k'
theorem vcText_upto {ops : List Oper} {Em : List (Nat × SV)} {Ds : List SV} (hok : edgesOk 0 ops = true) : ∀ (r : List Oper) (σ : List SV) (Hs : List Hp) (H : Hp) (K : List SV → List Hp → Hp → Prop), σ.length + r.length = ops.length → (∀ i, r[i]? = ops[σ.length + i]?) →
    Hs.length = stg ops σ.length + 1 → Hs[stg ops σ.length]? = some H → TextOk T P ops Em Ds σ Hs → vcText T P ops Em Ds r σ Hs H K →
    ∃ σ' Hs' H', σ'.length = ops.length ∧ Hs'.length = stg ops ops.length + 1 ∧ Hs'[stg ops ops.length]? = some H' ∧ Hs <+: Hs' ∧ K σ' Hs' H' ∧ TextOk T P ops Em Ds σ' Hs'
  | [], σ, Hs, H, K, hl, hr, h1, h2, ht, h => by
    have e : σ.length = ops.length := by simpa using hl
    rw [e] at h1 h2
    exact ⟨σ, Hs, H, e, h1, h2, List.prefix_refl _, h, ht⟩
  | o :: r, σ, Hs, H, K, hl, hr, h1, h2, ht, h => by
    rw [vcText_cons] at h
    have ho : ops[σ.length]? = some o := by have := hr 0; simpa using this.symm
    have hdep : ∀ (s : SV) (i : Nat) (p : Oper), ops[i]? = some p → i ≤ σ.length → depTs ops (σ ++ [s]) (bnds p.after.toList) Em = depTs ops σ (bnds p.after.toList) Em := by
      intro s i p hp hi
      refine depTs_congr fun e he => ?_
      have := (edgesOk_eq hok i p hp e he).2
      rw [nth_eq, nth_eq, List.getElem?_append_left (by omega)]
    have hr' : ∀ (s : SV) i, r[i]? = ops[(σ ++ [s]).length + i]? := fun s i => by
      have := hr (i + 1)
      simp at this ⊢
      rw [this]; congr 1; omega
    have hlen : ∀ i s, (σ ++ [s])[i]? ≠ none → i ≤ σ.length := fun i s h => by
      rcases Nat.lt_or_ge σ.length i with hlt | hge
      · exact absurd (List.getElem?_eq_none (by simp; omega)) h
      · exact hge
    split at h
    · rename_i he
      obtain ⟨s, H', h3, h4⟩ := detE_eff (T := T) (P := P) he _ _ _ h
      simp only [lf_eq] at h3
      have hst : stg ops (σ ++ [s]).length = stg ops σ.length + 1 := by rw [List.length_append, List.length_singleton, stg_succ ho, if_pos he]
      have htx : TextOk T P ops Em Ds (σ ++ [s]) (Hs ++ [H']) := by
        refine ⟨?_, ?_⟩
        · intro i p u H2 hp hq hu hH2 k' hk'
          have hi := hlen i s (by rw [hu]; simp)
          have hne : i ≠ σ.length := fun e => by subst e; rw [ho] at hp; injection hp with hp; subst hp; rw [he] at hq; cases hq
          have hlt : i < σ.length := by omega
          rw [hdep s i p hp hi]
          rw [List.getElem?_append_left hlt] at hu
          have hsm := stg_mono ops hi
          rw [List.getElem?_append_left (by omega)] at hH2
          exact ht.quiet i p u H2 hp hq hu hH2 k' hk'
        · intro i p u H2 hp hq hu hH2
          have hi := hlen i s (by rw [hu]; simp)
          rw [hdep s i p hp hi]
          rcases Nat.lt_or_ge i σ.length with hlt | hge
          · rw [List.getElem?_append_left hlt] at hu
            have hs1 := stg_mono ops (show i + 1 ≤ σ.length from hlt)
            rw [stg_succ hp, if_pos hq] at hs1
            rw [List.getElem?_append_left (by omega)] at hH2
            obtain ⟨H3, h5, h6⟩ := ht.eff i p u H2 hp hq hu hH2
            exact ⟨H3, by rw [List.getElem?_append_left (by omega)]; exact h5, h6⟩
          · have hi : i = σ.length := by omega
            subst hi
            rw [List.getElem?_append_right (Nat.le_refl _)] at hu
            simp at hu
            subst hu
            rw [ho] at hp
            injection hp with hp
            subst hp
            rw [List.getElem?_append_left (by omega), h2] at hH2
            injection hH2 with hH2
            subst hH2
            exact ⟨H', by rw [List.getElem?_append_right (by omega)]; simp [h1], h4⟩
      obtain ⟨σ', Hs', Hf, g1, g2, g3, g4, g5, g6⟩ := vcText_upto hok r (σ ++ [s]) (Hs ++ [H']) H' K (by simp at hl ⊢; omega) (hr' s) (by rw [hst]; simp [h1]) (by rw [hst, List.getElem?_append_right (by omega)]; simp [h1]) htx h3
      exact ⟨σ', Hs', Hf, g1, g2, g3, (List.prefix_append _ _).trans g4, g5, g6⟩
    · rename_i he
      obtain ⟨s, h3, h4⟩ := stepQ_det h
      rw [lf_eq] at h3
      have hst : stg ops (σ ++ [s]).length = stg ops σ.length := by rw [List.length_append, List.length_singleton, stg_succ ho, if_neg (by rw [he]; simp)]
      have htx : TextOk T P ops Em Ds (σ ++ [s]) Hs := by
        refine ⟨?_, ?_⟩
        · intro i p u H2 hp hq hu hH2 k' hk'
          have hi := hlen i s (by rw [hu]; simp)
          rw [hdep s i p hp hi]
          rcases Nat.lt_or_ge i σ.length with hlt | hge
          · rw [List.getElem?_append_left hlt] at hu
            exact ht.quiet i p u H2 hp hq hu hH2 k' hk'
          · have hi : i = σ.length := by omega
            subst hi
            rw [List.getElem?_append_right (Nat.le_refl _)] at hu
            simp at hu
            subst hu
            rw [ho] at hp
            injection hp with hp
            subst hp
            rw [h2] at hH2
            injection hH2 with hH2
            subst hH2
            exact h4 k' hk'
        · intro i p u H2 hp hq hu hH2
          have hi := hlen i s (by rw [hu]; simp)
          have hne : i ≠ σ.length := fun e => by subst e; rw [ho] at hp; injection hp with hp; subst hp; rw [he] at hq; cases hq
          have hlt : i < σ.length := by omega
          rw [hdep s i p hp hi]
          rw [List.getElem?_append_left hlt] at hu
          exact ht.eff i p u H2 hp hq hu hH2
      obtain ⟨σ', Hs', Hf, g1, g2, g3, g4, g5, g6⟩ := vcText_upto hok r (σ ++ [s]) Hs H K (by simp at hl ⊢; omega) (hr' s) (by rw [hst]; exact h1) (by rw [hst]; exact h2) htx h3
      exact ⟨σ', Hs', Hf, g1, g2, g3, g4, g5, g6⟩
/-- What does not look at the state tells the same in any. -/
theorem stepQ_agn {ops : List Oper} {o : Oper} {E : Env} {H H' : Hp} {k : SV → Prop} (hr : reads o = false) (h : stepQ T P ops o E H k) : stepQ T P ops o E H' k := by
  have op : opQ T P o E H k → opQ T P o E H' k := by
    intro h
    unfold opQ at h ⊢
    unfold reads at hr
    split at h
    · rename_i op c he
      split at hr
      · rename_i c' he'
        rw [he] at he'
        injection he' with he'
        subst he'
        split at hr
        · rename_i hc
          simp only [hc] at h ⊢
          exact h
        · rename_i hc
          simp only [hc] at h ⊢
          exact h
        · cases hr
      · rename_i hne; exact absurd he (hne c)
    · rename_i op hne
      split at hr
      · rename_i c he; exact absurd he (hne c)
      · have hag : agnOp o.op = true := by simpa using hr
        split at h
        · rename_i hq
          exact agn_opS hag E H H' h
        · exact h.elim
  unfold stepQ at h ⊢
  split at h
  · exact op h
  · rename_i j want hg
    replace h := nd_elim h
    obtain ⟨d, hd, h⟩ := h
    replace h := nd_elim h
    obtain ⟨g, hgt, h⟩ := h
    simp only [hd, hgt, nd]
    split at h
    · rename_i b
      split at h
      · rcases cnd_elim h with ⟨rfl, h⟩ | ⟨rfl, h⟩
        · exact op h
        · exact h
      · rcases cnd_elim h with ⟨rfl, h⟩ | ⟨rfl, h⟩
        · exact h
        · exact op h
    · exact h
    · exact h.elim
/-- Where a run of the region stands. -/
structure ParG (n b0 : Nat) (ops : List Oper) (Em : List (Nat × SV)) (Ds : List SV) (Hs : List Hp) (σ : List SV) (β0 : Gh) (H0 : Hp) (w0 : World) (listed : Array Bool) (a : Act) (w : World) : Prop where
  ex : ∃ β j H, Hs[j]? = some H ∧ Rep β H w ∧ Ext β0 H0 w0 β H w ∧ DefOk b0 β (owned β H) w Ds a.defers ∧ EnvOk β Em a.tmps ∧
    (∀ (i : Nat) (o : Oper), ops[i]? = some o → effO o = true → (listed[i]? = some true ↔ stg ops i < j)) ∧
    (∀ (i : Nat) (o : Oper) (s : SV) (d : Nat), ops[i]? = some o → listed[i]? = some true → o.dst = some d → σ[i]? = some s → ∃ x, a.tmps[d]? = some x ∧ Den β s x)
  size : a.tmps.size = n
  lsize : listed.size = ops.length
  dc : Down ops listed
theorem put_keep {tmps : Array Value} {d : Option Nat} {v x : Value} {t : Nat} (hx : tmps[t]? = some x) (hd : ∀ u, d = some u → u ≠ t) : ({ tmps := tmps, defers := [] : Act }.put d v).tmps[t]? = some x := by
  cases d with
  | none => simpa [Act.put] using hx
  | some u =>
    simp only [Act.put, Array.getElem?_setIfInBounds]
    rw [if_neg (hd u rfl)]; exact hx
theorem put_tmps (a : Act) (d : Option Nat) (v : Value) : (a.put d v).tmps = ({ tmps := a.tmps, defers := [] : Act }.put d v).tmps := by cases d <;> rfl
theorem put_defers (a : Act) (d : Option Nat) (v : Value) : (a.put d v).defers = a.defers := by cases d <;> rfl
theorem par_anyG (hT : TabOk T P) {ro : Option Nat} {n b0 : Nat} {ops : Array Oper} {Em : List (Nat × SV)} {Ds : List SV} {Hs : List Hp} {σ : List SV} {β0 : Gh} {H0 : Hp} {w0 : World} {Q : Exit → Act → World → Prop}
    (hd : (dsts ops.toList).Nodup) (hok : edgesOk 0 ops.toList = true) (hbl : ∀ d ∈ dsts ops.toList, d < n) (hch : chainOk ops.toList 0 ops.toList = true) (hEm : ∀ t s, get Em t = some s → t ∉ dsts ops.toList) (hσ : σ.length = ops.size)
    (hHs : Hs.length = stg ops.toList ops.size + 1) (ht : TextOk T P ops.toList Em Ds σ Hs)
    (hrd : ∀ (i : Nat) (o : Oper) (s : SV), ops.toList[i]? = some o → effO o = false → reads o = true → σ[i]? = some s →
      ∀ (j : Nat) (H : Hp), Hs[j]? = some H → loOk ops.toList j (bnds o.after.toList) = true → hiOk ops.toList i j 0 ops.toList = true → stepQ T P ops.toList o ⟨depTs ops.toList σ (bnds o.after.toList) Em, Ds⟩ H (fun s' => s' = s))
    (hQ : ∀ listed a w, ParG n b0 ops.toList Em Ds Hs σ β0 H0 w0 listed a w → (∀ i, i < ops.size → listed[i]? = some true) → Q .normal a w) :
    ∀ (m fuel : Nat) (listed : Array Bool) (a : Act) (w : World), listed.toList.count false = m → m ≤ fuel → ParG n b0 ops.toList Em Ds Hs σ β0 H0 w0 listed a w → wpAnyIn (W0 ro) 0 P .any ops Q fuel listed a w
  | m, 0, listed, a, w, hc, hf, I => by
    have hls : listed.size = ops.size := by simpa using I.lsize
    have hall : ∀ i, i < ops.size → listed[i]? = some true := by
      intro i hi
      have hlt : i < listed.size := by omega
      cases hb : listed[i]'hlt with
      | true => rw [Array.getElem?_eq_getElem hlt, hb]
      | false =>
        have : 0 < listed.toList.count false := List.count_pos_iff.2 (by rw [List.mem_iff_getElem?]; exact ⟨i, by simp [hlt, hb]⟩)
        omega
    refine ⟨?_, hQ listed a w I hall⟩
    unfold Region.ready
    rw [List.filter_eq_nil_iff]
    intro i hi
    have h1 := hall i (by simpa using hi)
    have hlt := (Array.getElem?_eq_some_iff.1 h1).1
    rw [Array.getElem?_eq_getElem hlt] at h1
    simp [Array.getD, hlt, Option.some.inj h1]
  | m, fuel + 1, listed, a, w, hc, hf, I => by
    have hls : listed.size = ops.size := by simpa using I.lsize
    refine ⟨fun hr => hQ listed a w I (ready_nil hok hls hr), fun i hi => ?_⟩
    rw [mem_ready] at hi
    obtain ⟨h0, o, ho, hdeps⟩ := hi
    have hilt := (Array.getElem?_eq_some_iff.1 ho).1
    have hil : i < listed.size := by omega
    have hol : ops.toList[i]? = some o := by simpa using ho
    have hdl : ∀ e ∈ bnds o.after.toList, listed[e.on]? = some true := by
      intro e he
      have h1 := edgesOk_eq hok i o hol e he
      have h2 := hdeps e (by simpa using bnds_mem he) h1.1
      have h3 : e.on < listed.size := by omega
      rw [Array.getElem?_eq_getElem h3]
      simp [Array.getD, h3] at h2
      rw [h2]
    have hbf : listed[i]'hil = false := by simpa [Array.getD, hil] using h0
    have hnl : listed[i]? ≠ some true := by rw [Array.getElem?_eq_getElem hil, hbf]; simp
    obtain ⟨β, j, H, hH, R, X, hD, hE, hef, hL⟩ := I.ex
    have hsi : σ[i]? = some (σ[i]'(by omega)) := List.getElem?_eq_getElem _
    have RA : RepA n b0 β ⟨depTs ops.toList σ (bnds o.after.toList) Em, Ds⟩ H a w := by
      refine ⟨R, I.size, hD, fun t s hts => ?_⟩
      rcases depTs_get hts with ⟨e, he, p, hp, hpd, hps⟩ | hts
      · exact hL e.on p s t hp (hdl e he) hpd hps
      · exact hE t s hts
    have RA0 : RepA n b0 β ⟨depTs ops.toList σ (bnds o.after.toList) Em, Ds⟩ H a w := RA
    have hjl : j < Hs.length := (List.getElem?_eq_some_iff.1 hH).1
    -- what is behind it
    have go : ∀ (β' : Gh) (y : Value) (H' : Hp) (w' : World) (j' : Nat), Den β' (σ[i]'(by omega)) y → Hs[j']? = some H' → Rep β' H' w' → Ext β H w β' H' w' → (∀ (k : Nat) (p : Oper), ops.toList[k]? = some p → effO p = true → ((listed.setIfInBounds i true)[k]? = some true ↔ stg ops.toList k < j')) →
        wpAnyIn (W0 ro) 0 P .any ops Q fuel (listed.setIfInBounds i true) (a.put o.dst y) w' := by
      intro β' y H' w' j' hdn hH' R' X' hef'
      have hcnt : (listed.setIfInBounds i true).toList.count false = m - 1 := by
        have e0 : (listed.setIfInBounds i true).toList = listed.toList.set i true := by simp
        have hil2 : i < listed.toList.length := by simpa using hil
        rw [e0, List.count_set hil2]
        have e1 : listed.toList[i]'hil2 = false := by simpa using hbf
        rw [e1]
        simp only [beq_self_eq_true, if_true]
        have e2 : ((true == false) = true) = False := by simp
        simp only [e2, if_false]
        omega
      have hpos : 0 < m := by
        rw [← hc]
        exact List.count_pos_iff.2 (by rw [List.mem_iff_getElem?]; exact ⟨i, by simp [hil, hbf]⟩)
      refine par_anyG hT hd hok hbl hch hEm hσ hHs ht hrd hQ (m - 1) fuel _ _ _ hcnt (by omega) ?_
      refine ⟨⟨β', j', H', hH', R', X.trans X', ?_, ?_, hef', ?_⟩, ?_, by simp [hls], I.dc.set hol hdl⟩
      · rw [put_defers]; exact hD.ext X'
      · intro t s hts
        obtain ⟨x, hx, hdx⟩ := hE t s hts
        refine ⟨x, ?_, Den.mono X'.pre _ _ hdx⟩
        rw [put_tmps]
        exact put_keep hx fun u hu e => hEm t s hts (e ▸ mem_dsts hol hu)
      · intro k p s d hp hk hpd hps
        by_cases hik : i = k
        · subst hik
          rw [hol] at hp
          injection hp with hp
          subst hp
          rw [hsi] at hps
          injection hps with hps
          subst hps
          have hdn' : d < a.tmps.size := by rw [I.size]; exact hbl d (mem_dsts hol hpd)
          exact ⟨y, by simp [Act.put, hpd, hdn'], hdn⟩
        · have hk' : listed[k]? = some true := by
            rw [Array.getElem?_setIfInBounds, if_neg hik] at hk; exact hk
          obtain ⟨x, hx, hdx⟩ := hL k p s d hp hk' hpd hps
          refine ⟨x, ?_, Den.mono X'.pre _ _ hdx⟩
          rw [put_tmps]
          exact put_keep hx fun u hu e => hik (dst_inj hd hol hp (e ▸ hu) hpd)
      · cases o.dst <;> simp [Act.put, I.size]
    cases he : effO o with
    | true =>
      -- its turn has come
      have hji : stg ops.toList i = j := by
        have h1 : ¬ stg ops.toList i < j := fun h => hnl ((hef i o hol he).2 h)
        by_cases hz : stg ops.toList i = 0
        · omega
        · obtain ⟨e, hee, p, hp, hpe, hpp⟩ := chainOk_eq hch i o hol he (by rw [Nat.zero_add]; exact hz)
          rw [Nat.zero_add] at hpp
          have := (hef e.on p hp hpe).1 (hdl e hee)
          omega
      obtain ⟨H', hH', hop⟩ := ht.eff i o _ H hol he hsi (by rw [hji]; exact hH)
      obtain ⟨hg, hnd⟩ := eff_nodefer he
      unfold wpOpIn
      simp only [ho]
      rw [if_pos (by simp [Region.wanted, hg])]
      have hop2 := hop (fun s' H'' => s' = σ[i]'(by omega) ∧ H'' = H') ⟨rfl, rfl⟩
      refine opC_wp hT (E := ⟨depTs ops.toList σ (bnds o.after.toList) Em, Ds⟩) RA hnd hop2 ?_
      rintro β' s y H'' w' hdn R' X' ⟨rfl, rfl⟩
      refine go β' y H'' w' (j + 1) hdn (by rw [← hji]; exact hH') R' X' fun k p hp hpe => ?_
      by_cases hik : i = k
      · subst hik
        rw [hji]
        simp [Array.getElem?_setIfInBounds, hil]
      · rw [Array.getElem?_setIfInBounds, if_neg hik, hef k p hp hpe]
        have hne : stg ops.toList k ≠ stg ops.toList i := fun e => hik (stg_inj hp hol hpe he e).symm
        omega
    | false =>
      have hq : stepQ T P ops.toList o ⟨depTs ops.toList σ (bnds o.after.toList) Em, Ds⟩ H (fun s' => s' = σ[i]'(by omega)) := by
        cases hre : reads o with
        | true =>
          refine hrd i o _ hol he hre hsi j H hH (loOk_of fun e hee p hp hpe => (hef e.on p hp hpe).1 (hdl e hee)) (hiOk_of 0 (fun m p h => by rw [Nat.zero_add]; exact h) fun k p hp hpe hek => ?_)
          obtain ⟨e, hee, heon⟩ := hek
          have h1 : ¬ stg ops.toList k < j := fun h => hnl (by rw [← heon]; exact I.dc k p hp ((hef k p hp hpe).2 h) e hee)
          omega
        | false =>
          have hsl : stg ops.toList i < Hs.length := by
            rw [hHs]
            have := stg_mono ops.toList (Nat.le_of_lt hilt)
            omega
          exact stepQ_agn hre (ht.quiet i o _ _ hol he hsi (List.getElem?_eq_getElem hsl) (fun s' => s' = σ[i]'(by omega)) rfl)
      refine stepQ_wp (k := fun s' => s' = σ[i]'(by omega)) hT RA ho hq ?_
      rintro β' s y w' hdn R' X' rfl
      refine go β' y H w' j hdn hH R' X' fun k p hp hpe => ?_
      have hik : i ≠ k := fun e => by subst e; rw [hol] at hp; injection hp with hp; subst hp; rw [he] at hpe; cases hpe
      rw [Array.getElem?_setIfInBounds, if_neg hik]
      exact hef k p hp hpe
end
end Go.Sy

