import Derived.Test.YthdkofhgdmgdcabSxI
/- Sx, part J: the rule for a region that draws its order. -/
set_option linter.unusedVariables false
set_option linter.unusedSimpArgs false
namespace Go.Sx
open Go

theorem Rep.drew {β : List Nat} {H : Hp} {w : World} (R : Rep β H w) : Rep β H { w with drawn := w.drawn + 1 } :=
  ⟨R.len, R.nb, R.box, R.row, R.nd, R.g⟩
theorem Ext.drew (β : List Nat) (H : Hp) (w : World) : Ext β H w β H { w with drawn := w.drawn + 1 } :=
  ⟨List.prefix_refl _, ⟨rfl, rfl, rfl, Nat.le_refl _, fun _ _ _ => rfl⟩, fun _ h => .inl h, fun _ _ h => h, fun _ _ h => .inl h⟩
theorem fullE_get : ∀ {ops : List Oper} {σ : List SV} {E : Env} {t : Nat} {s : SV}, get (fullE ops σ E) t = some s → (∃ (j : Nat) (o : Oper), ops[j]? = some o ∧ o.dst = some t ∧ σ[j]? = some s) ∨ get E t = some s
  | [], σ, E, t, s, h => .inr (by simpa [fullE] using h)
  | o :: r, [], E, t, s, h => .inr (by simpa [fullE] using h)
  | o :: r, u :: σ, E, t, s, h => by
    simp only [fullE] at h
    have rec_ : get (fullE r σ E) t = some s → (∃ (j : Nat) (p : Oper), (o :: r)[j]? = some p ∧ p.dst = some t ∧ (u :: σ)[j]? = some s) ∨ get E t = some s := by
      intro h
      rcases fullE_get h with ⟨j, p, h1, h2, h3⟩ | h
      · exact .inl ⟨j + 1, p, by simpa using h1, h2, by simpa using h3⟩
      · exact .inr h
    split at h
    · rename_i d hd
      simp only [get] at h
      split at h
      · rename_i hb
        injection h with h; subst h
        exact .inl ⟨0, o, rfl, by rw [hd, Nat.eq_of_beq_eq_true hb], rfl⟩
      · exact rec_ h
    · exact rec_ h
theorem depEnv_get {ops : List Oper} {σ : List SV} : ∀ {l : List Edge} {E : Env} {t : Nat} {s : SV}, get (depEnv ops σ l E) t = some s →
    (∃ e ∈ l, ∃ o, ops[e.on]? = some o ∧ o.dst = some t ∧ σ[e.on]? = some s) ∨ get E t = some s
  | [], E, t, s, h => .inr (by simpa [depEnv] using h)
  | e :: r, E, t, s, h => by
    simp only [depEnv] at h
    have rec_ : get (depEnv ops σ r E) t = some s → (∃ e' ∈ e :: r, ∃ o, ops[e'.on]? = some o ∧ o.dst = some t ∧ σ[e'.on]? = some s) ∨ get E t = some s := by
      intro h
      rcases depEnv_get h with ⟨e', he, h⟩ | h
      · exact .inl ⟨e', by simp [he], h⟩
      · exact .inr h
    split at h
    · rename_i d hd
      rw [dstOf_eq] at hd
      obtain ⟨o, ho, hod⟩ := Option.bind_eq_some_iff.1 hd
      split at h
      · rename_i u hu
        rw [nth_eq] at hu
        simp only [get] at h
        split at h
        · rename_i hb
          injection h with h; subst h
          exact .inl ⟨e, by simp, o, ho, by rw [hod, Nat.eq_of_beq_eq_true hb], hu⟩
        · exact rec_ h
      · exact rec_ h
    · exact rec_ h

section
variable {P : Program} {T : List TI}
/-- Whoever is listed waits for none that is not. -/
def Down (ops : List Oper) (listed : Array Bool) : Prop := ∀ (j : Nat) (o : Oper), ops[j]? = some o → listed[j]? = some true → ∀ e ∈ (bnds o.after.toList), listed[e.on]? = some true
structure ParInv (n : Nat) (D : List Deferred) (ops : List Oper) (Em : Env) (H : Hp) (σ : List SV) (β0 : List Nat) (w0 : World) (listed : Array Bool) (a : Act) (w : World) : Prop where
  ex : ∃ β, Rep β H w ∧ Ext β0 H w0 β H w ∧ (∀ (t : Nat) (s : SV), get Em t = some s → ∃ x, a.tmps[t]? = some x ∧ Den β s x) ∧
    (∀ (j : Nat) (o : Oper) (s : SV) (d : Nat), ops[j]? = some o → listed[j]? = some true → o.dst = some d → σ[j]? = some s → ∃ x, a.tmps[d]? = some x ∧ Den β s x)
  size : a.tmps.size = n
  defers : a.defers = D
  lsize : listed.size = ops.length
  dc : Down ops listed

theorem ready_nil {ops : Array Oper} {listed : Array Bool} (hok : edgesOk 0 ops.toList = true) (hs : listed.size = ops.size) (hr : Region.ready .any ops listed = []) : ∀ j, j < ops.size → listed[j]? = some true := by
  intro j
  induction j using Nat.strongRecOn with
  | _ j ih =>
    intro hj
    have hlt : j < listed.size := by omega
    cases hb : listed[j]'hlt with
    | true => rw [Array.getElem?_eq_getElem hlt, hb]
    | false =>
      exfalso
      have : j ∈ Region.ready .any ops listed := by
        rw [mem_ready]
        refine ⟨by simp [Array.getD, hlt, hb], ops[j], Array.getElem?_eq_getElem hj, fun e he hbd => ?_⟩
        have h1 := edgesOk_eq hok j ops[j] (by simp [hj]) e (bnds_of (by simpa using he) hbd)
        have h2 := ih e.on (by omega) (by omega)
        have h3 : e.on < listed.size := by omega
        rw [Array.getElem?_eq_getElem h3] at h2
        simp [Array.getD, h3]
        exact Option.some.inj h2
      rw [hr] at this
      cases this

theorem on_of {l : List Edge} {j : Nat} (h : isIn j (l.map (·.on)) = true) : ∃ e ∈ l, e.on = j := by
  obtain ⟨e, he, h2⟩ := List.mem_map.1 (isIn_eq.1 h)
  exact ⟨e, he, h2⟩
/-- Each operation of the tail waits for the one ahead of it (p: the place ahead). -/
def tailG : Nat → List Oper → Bool
  | _, [] => true
  | p, o :: r => match isIn p ((bnds o.after.toList).map (·.on)) with | true => tailG (p + 1) r | false => false
def tailOk (q : Nat) : List Oper → Bool
  | [] => true
  | _ :: r => tailG q r
theorem tailG_eq : ∀ {l : List Oper} {p : Nat}, tailG p l = true → ∀ (i : Nat) (o : Oper), l[i]? = some o → ∃ e ∈ (bnds o.after.toList), e.on = p + i
  | [], _, _, i, o, h => by simp at h
  | x :: r, p, h, i, o, ho => by
    simp only [tailG] at h
    split at h
    · rename_i hx
      cases i with
      | zero => simp at ho; subst ho; exact on_of hx
      | succ i =>
        simp at ho
        obtain ⟨e, he, h2⟩ := tailG_eq h i o ho
        exact ⟨e, he, by omega⟩
    · cases h
theorem tailOk_eqS {l : List Oper} (q : Nat) (h : tailOk q l = true) (i : Nat) (o : Oper) (ho : l[i]? = some o) (hi : 0 < i) : ∃ e ∈ (bnds o.after.toList), e.on + 1 = q + i := by
  cases l with
  | nil => simp at ho
  | cons x r =>
    cases i with
    | zero => omega
    | succ i =>
      simp at ho
      obtain ⟨e, he, h2⟩ := tailG_eq h i o ho
      exact ⟨e, he, by omega⟩
/-- Each of the first operations is waited for by a later one, up to the first of the tail. -/
def waited (j : Nat) : List Oper → Bool
  | [] => false
  | o :: r => match isIn j ((bnds o.after.toList).map (·.on)) with | true => true | false => waited j r
theorem waited_eq {j : Nat} : ∀ {l : List Oper}, waited j l = true → ∃ (k : Nat) (o : Oper), l[k]? = some o ∧ ∃ e ∈ (bnds o.after.toList), e.on = j
  | [], h => by cases h
  | x :: r, h => by
    simp only [waited] at h
    split at h
    · rename_i hx; exact ⟨0, x, rfl, on_of hx⟩
    · obtain ⟨k, o, h1, h2⟩ := waited_eq h; exact ⟨k + 1, o, by simpa using h1, h2⟩
def usedOk : Nat → List Oper → Bool
  | 0, _ => true
  | j + 1, l => match waited j l with | true => usedOk j l | false => false
theorem usedOk_eq {l : List Oper} : ∀ {q : Nat}, usedOk q l = true → ∀ j, j < q → ∃ (k : Nat) (o : Oper), l[k]? = some o ∧ ∃ e ∈ (bnds o.after.toList), e.on = j
  | 0, _, j, hj => absurd hj (Nat.not_lt_zero _)
  | q + 1, h, j, hj => by
    simp only [usedOk] at h
    split at h
    · rename_i hb
      rcases Nat.lt_or_ge j q with hlt | hge
      · exact usedOk_eq h j hlt
      · have : j = q := by omega
        subst this
        exact waited_eq hb
    · cases h
theorem set_true {listed : Array Bool} {i j : Nat} (h : listed[j]? = some true) : (listed.setIfInBounds i true)[j]? = some true := by
  have hlt := (Array.getElem?_eq_some_iff.1 h).1
  rw [Array.getElem?_setIfInBounds]
  split
  · rename_i e; subst e; simp [hlt]
  · exact h
theorem Down.set {ops : List Oper} {listed : Array Bool} (h : Down ops listed) {i : Nat} {o : Oper} (ho : ops[i]? = some o) (hi : ∀ e ∈ (bnds o.after.toList), listed[e.on]? = some true) : Down ops (listed.setIfInBounds i true) := by
  intro j p hp hj e he
  by_cases hij : i = j
  · subst hij
    rw [ho] at hp
    injection hp with hp
    subst hp
    exact set_true (hi e he)
  · rw [Array.getElem?_setIfInBounds, if_neg hij] at hj
    exact set_true (h j p hp hj e he)
theorem Down.all {ops : List Oper} {listed : Array Bool} (h : Down ops listed) (hok : edgesOk 0 ops = true) {q : Nat} {o : Oper} (ho : ops[q]? = some o) (hq : ∀ e ∈ (bnds o.after.toList), listed[e.on]? = some true)
    (hu : ∀ j, j < q → ∃ (k : Nat) (p : Oper), (ops.take (q + 1))[k]? = some p ∧ ∃ e ∈ (bnds p.after.toList), e.on = j) : ∀ (m j : Nat), q - j = m → j < q → listed[j]? = some true := by
  intro m
  induction m using Nat.strongRecOn with
  | _ m ih =>
    intro j hm hj
    obtain ⟨k, p, hp, e, he, hej⟩ := hu j hj
    rw [List.getElem?_take] at hp
    split at hp
    · rename_i hk
      have h1 := (edgesOk_eq hok k p hp e he).2
      by_cases hkq : k = q
      · subst hkq
        rw [ho] at hp
        injection hp with hp
        subst hp
        rw [← hej]; exact hq e he
      · rw [← hej]
        exact h k p hp (ih (q - k) (by omega) k rfl (by omega)) e he
    · cases hp

/-- What is left of a region runs in its order. -/
theorem seq_any (hT : TabOk T P) {n : Nat} {D : List Deferred} {ops : Array Oper} {Q : Exit → Act → World → Prop} (hok : edgesOk 0 ops.toList = true) :
    ∀ (r : List Oper) (p fuel : Nat) (listed : Array Bool) {β : List Nat} {E : Env} {H : Hp} {a : Act} {w : World} {K : Env → Hp → Prop}, p + r.length = ops.size → (∀ i, r[i]? = ops.toList[p + i]?) →
    (∀ (i : Nat) (o : Oper), r[i]? = some o → 0 < i → ∃ e ∈ (bnds o.after.toList), e.on + 1 = p + i) →
    listed.size = ops.size → (∀ j, j < p → listed[j]? = some true) → (∀ j, p ≤ j → j < ops.size → listed[j]? = some false) → r.length ≤ fuel →
    RepA n D β E H a w → vcOps T P n ops.toList r E H K → (∀ β' E' H' a' w', RepA n D β' E' H' a' w' → Ext β H w β' H' w' → K E' H' → Q .normal a' w') → wpAny P .any ops Q fuel listed a w
  | [], p, fuel, listed, β, E, H, a, w, K, hp, hr, hw, hls, hlt, hlf, hf, R, h, hQ => by
    have hnil : Region.ready .any ops listed = [] := by
      cases hrd : Region.ready .any ops listed with
      | nil => rfl
      | cons i l =>
        have : i ∈ Region.ready .any ops listed := by rw [hrd]; simp
        rw [mem_ready] at this
        obtain ⟨h0, o, ho, _⟩ := this
        have hi := (Array.getElem?_eq_some_iff.1 ho).1
        have h1 := hlt i (by simp at hp; omega)
        have h2 : i < listed.size := by omega
        rw [Array.getElem?_eq_getElem h2] at h1
        simp [Array.getD, h2] at h0
        rw [Option.some.inj h1] at h0
        cases h0
    have hfin : Q .normal a w := hQ β E H a w R (Ext.refl _ _ _) h
    cases fuel with
    | zero => exact ⟨hnil, hfin⟩
    | succ fuel => exact ⟨fun _ => hfin, fun i hi => by rw [hnil] at hi; cases hi⟩
  | o :: r, p, 0, listed, β, E, H, a, w, K, hp, hr, hw, hls, hlt, hlf, hf, R, h, hQ => by simp at hf
  | o :: r, p, fuel + 1, listed, β, E, H, a, w, K, hp, hr, hw, hls, hlt, hlf, hf, R, h, hQ => by
    have hps : p < ops.size := by simp at hp; omega
    have ho : ops.toList[p]? = some o := by have := hr 0; simpa using this.symm
    have hoo : ops[p]? = some o := by simpa using ho
    have honly : ∀ i ∈ Region.ready .any ops listed, i = p := by
      intro i hi
      rw [mem_ready] at hi
      obtain ⟨h0, q, hq, hdeps⟩ := hi
      have hilt := (Array.getElem?_eq_some_iff.1 hq).1
      have h2 : i < listed.size := by omega
      rcases Nat.lt_trichotomy i p with hlt' | rfl | hgt
      · have h1 := hlt i hlt'
        rw [Array.getElem?_eq_getElem h2] at h1
        simp [Array.getD, h2] at h0
        rw [Option.some.inj h1] at h0
        cases h0
      · rfl
      · have hq' : (o :: r)[i - p]? = some q := by rw [hr (i - p), show p + (i - p) = i by omega]; simpa using hq
        obtain ⟨e, he, hep⟩ := hw (i - p) q hq' (by omega)
        have h3 := edgesOk_eq hok i q (by simpa using hq) e he
        have h4 := hdeps e (by simpa using bnds_mem he) h3.1
        have h5 := hlf e.on (by omega) (by omega)
        have h6 : e.on < listed.size := by omega
        rw [Array.getElem?_eq_getElem h6] at h5
        simp [Array.getD, h6] at h4
        rw [Option.some.inj h5] at h4
        cases h4
    have hpin : p ∈ Region.ready .any ops listed := by
      rw [mem_ready]
      have h6 : p < listed.size := by omega
      have h5 := hlf p (Nat.le_refl _) hps
      rw [Array.getElem?_eq_getElem h6] at h5
      refine ⟨by simp [Array.getD, h6, Option.some.inj h5], o, hoo, fun e he hb => ?_⟩
      have h3 := edgesOk_eq hok p o ho e (bnds_of (by simpa using he) hb)
      have h7 := hlt e.on (by omega)
      have h8 : e.on < listed.size := by omega
      rw [Array.getElem?_eq_getElem h8] at h7
      simp [Array.getD, h8, Option.some.inj h7]
    refine ⟨(fun hn => by rw [hn] at hpin; cases hpin), fun i hi => ?_⟩
    obtain rfl := honly i hi
    -- the operation itself, as in a region without a draw
    have hls' : ∀ b, (listed.setIfInBounds i b).size = ops.size := fun b => by simp [hls]
    have next : ∀ {β' : List Nat} {E' : Env} {H' : Hp} {a' : Act} {w' : World}, RepA n D β' E' H' a' w' → Ext β H w β' H' w' → vcOps T P n ops.toList r E' H' K →
        wpAny P .any ops Q fuel (listed.setIfInBounds i true) a' w' := by
      intro β' E' H' a' w' R' X' h'
      have hf' : r.length ≤ fuel := by simpa using hf
      refine seq_any hT hok r (i + 1) fuel _ (by rw [← hp]; simp; omega) (fun j => ?_) (fun j q hj hk => ?_) (hls' _) (fun j hj => ?_) (fun j hj hjs => ?_) hf' R' h' fun β2 E2 H2 a2 w2 R2 X2 h2 => hQ β2 E2 H2 a2 w2 R2 (X'.trans X2) h2
      · rw [show i + 1 + j = i + (j + 1) by omega, ← hr (j + 1)]
        simp
      · obtain ⟨e, he, hep⟩ := hw (j + 1) q (by simpa using hj) (by omega)
        exact ⟨e, he, by omega⟩
      · rw [Array.getElem?_setIfInBounds]
        by_cases hij : i = j
        · subst hij; simp [hls, hps]
        · rw [if_neg hij]; exact hlt j (by omega)
      · rw [Array.getElem?_setIfInBounds, if_neg (by omega)]; exact hlf j (by omega) hjs
    have doit : opC T P o E H (fun s H' => put n o.dst s E fun E' => vcOps T P n ops.toList r E' H' K) → o.wp P a w (wpAny P .any ops Q fuel (listed.setIfInBounds i true)) Q := by
      intro h
      refine opC_wp hT R h ?_
      intro β' s y H' w' hd R' X' hk
      obtain ⟨E', hk', RA⟩ := R.put R' X' hd hk
      exact next RA X' hk'
    have skip : put n o.dst (.v undef) E (fun E' => vcOps T P n ops.toList r E' H K) → wpAny P .any ops Q fuel (listed.setIfInBounds i true) (a.put o.dst undef) w := by
      intro h
      obtain ⟨E', hk', RA⟩ := R.put R.rep (Ext.refl _ _ _) (s := .v undef) (x := undef) rfl h
      exact next RA (Ext.refl _ _ _) hk'
    unfold wpOp
    simp only [hoo]
    rw [vcOps_cons] at h
    unfold stepC at h
    split at h
    · rename_i hg
      rw [if_pos (by simp [Region.wanted, hg])]
      exact .inl (doit h)
    · rename_i j want hg
      replace h := nd_elim h
      obtain ⟨d, hd, h⟩ := h
      replace h := nd_elim h
      obtain ⟨g, hgt, h⟩ := h
      obtain ⟨y, hy, hdy⟩ := R.env d g hgt
      rw [dstOf_eq] at hd
      have hd' : (ops[j]?).bind (·.dst) = some d := by simpa using hd
      have hyd : yielded ops a.tmps j = match y with | .bool b => some b | _ => none := by
        unfold yielded
        rw [hd']
        simp only [Option.bind_some, hy]
        cases y <;> rfl
      split at h
      · rename_i b
        simp only [Den] at hdy
        subst hdy
        simp only at hyd
        have hww : Region.wanted o (yielded ops a.tmps) = (b == want) := by
          simp only [Region.wanted, hg, hyd]
          cases b <;> cases want <;> rfl
        split at h
        · rcases cnd_elim h with ⟨rfl, h⟩ | ⟨rfl, h⟩
          · rw [if_pos (by rw [hww]; rfl)]; exact .inl (doit h)
          · rw [if_neg (by rw [hww]; simp)]; exact skip h
        · rcases cnd_elim h with ⟨rfl, h⟩ | ⟨rfl, h⟩
          · rw [if_neg (by rw [hww]; simp)]; exact skip h
          · rw [if_pos (by rw [hww]; rfl)]; exact .inl (doit h)
      · rename_i ts
        simp only [Den] at hdy
        subst hdy
        simp only at hyd
        rw [if_neg (by simp [Region.wanted, hg, hyd])]
        exact skip h
      · exact h.elim

theorem par_any (hT : TabOk T P) {n : Nat} {D : List Deferred} {ops : Array Oper} {q : Nat} {Em : Env} {H : Hp} {σ : List SV} {β0 : List Nat} {w0 : World} {Q : Exit → Act → World → Prop}
    (hd : (dsts ops.toList).Nodup) (hok : edgesOk 0 ops.toList = true) (hbl : ∀ d ∈ dsts ops.toList, d < n) (hEm : ∀ t s, get Em t = some s → t ∉ dsts (ops.toList.take q)) (hq : q ≤ ops.size) (hσ : σ.length = q)
    (htail : ∀ (i : Nat) (o : Oper), ops.toList[i]? = some o → q < i → ∃ e ∈ (bnds o.after.toList), e.on + 1 = i)
    (hused : q < ops.size → ∀ j, j < q → ∃ (k : Nat) (p : Oper), (ops.toList.take (q + 1))[k]? = some p ∧ ∃ e ∈ (bnds p.after.toList), e.on = j)
    (hstep : ∀ (i : Nat) (o : Oper) (s : SV), ops.toList[i]? = some o → σ[i]? = some s → ∀ k' : SV → Prop, k' s → stepQ T P ops.toList o (depEnv ops.toList σ (bnds o.after.toList) Em) H k')
    (hQ : ∀ fuel listed a w, ParInv n D ops.toList Em H σ β0 w0 listed a w → (∀ j, j < q → listed[j]? = some true) → (∀ j, q ≤ j → j < ops.size → listed[j]? = some false) → ops.size - q ≤ fuel → wpAny P .any ops Q fuel listed a w) :
    ∀ (m fuel : Nat) (listed : Array Bool) (a : Act) (w : World), (listed.toList.take q).count false = m → m + (ops.size - q) ≤ fuel → (∀ j, q ≤ j → j < ops.size → listed[j]? = some false) → ParInv n D ops.toList Em H σ β0 w0 listed a w → wpAny P .any ops Q fuel listed a w
  | 0, fuel, listed, a, w, hc, hf, hlf, I => by
    have hls : listed.size = ops.size := by simpa using I.lsize
    refine hQ fuel listed a w I (fun j hj => ?_) hlf (by omega)
    have hlt : j < listed.size := by omega
    cases hb : listed[j]'hlt with
    | true => rw [Array.getElem?_eq_getElem hlt, hb]
    | false =>
      have : 0 < (listed.toList.take q).count false := by
        refine List.count_pos_iff.2 ?_
        rw [List.mem_iff_getElem?]
        exact ⟨j, by rw [List.getElem?_take, if_pos hj]; simp [hlt, hb]⟩
      omega
  | m + 1, 0, listed, a, w, hc, hf, hlf, I => by omega
  | m + 1, fuel + 1, listed, a, w, hc, hf, hlf, I => by
    have hls : listed.size = ops.size := by simpa using I.lsize
    refine ⟨fun hr => ?_, fun i hi => ?_⟩
    · -- not all are listed: one is ready
      exfalso
      have hall := ready_nil hok hls hr
      have hpos : 0 < (listed.toList.take q).count false := by omega
      obtain ⟨j, hj⟩ := List.mem_iff_getElem?.1 (List.count_pos_iff.1 hpos)
      rw [List.getElem?_take] at hj
      split at hj
      · rename_i hjq
        have h1 := hall j (by omega)
        have h2 : listed.toList[j]? = some true := by simpa using h1
        rw [h2] at hj
        cases hj
      · cases hj
    rw [mem_ready] at hi
    obtain ⟨h0, o, ho, hdeps⟩ := hi
    have hilt := (Array.getElem?_eq_some_iff.1 ho).1
    have hil : i < listed.size := by omega
    have hol : ops.toList[i]? = some o := by simpa using ho
    have hiq : i < q := by
      rcases Nat.lt_or_ge i q with h | h
      · exact h
      · exfalso
        have hpos : 0 < (listed.toList.take q).count false := by omega
        obtain ⟨j, hj⟩ := List.mem_iff_getElem?.1 (List.count_pos_iff.1 hpos)
        rw [List.getElem?_take] at hj
        split at hj
        · rename_i hjq
          have hdl : ∀ e ∈ (bnds o.after.toList), listed[e.on]? = some true := by
            intro e he
            have h1 := edgesOk_eq hok i o hol e he
            have h2 := hdeps e (by simpa using bnds_mem he) h1.1
            have h3 : e.on < listed.size := by omega
            rw [Array.getElem?_eq_getElem h3]
            simp [Array.getD, h3] at h2
            rw [h2]
          by_cases hiq : q < i
          · obtain ⟨e, he, hej⟩ := htail i o hol hiq
            have h1 := hdl e he
            rw [hlf e.on (by omega) (by omega)] at h1
            cases h1
          · have hqi : q = i := by omega
            subst hqi
            have h1 := I.dc.all hok hol hdl (hused hilt) (q - j) j rfl hjq
            have h4 : listed.toList[j]? = some true := by simpa using h1
            rw [h4] at hj
            cases hj
        · cases hj
    obtain ⟨β, R, X, hE, hL⟩ := I.ex
    have hsi : σ[i]? = some (σ[i]'(by omega)) := List.getElem?_eq_getElem _
    have RA : RepA n D β (depEnv ops.toList σ (bnds o.after.toList) Em) H a w := by
      refine ⟨R, I.size, I.defers, fun t s ht => ?_⟩
      rcases depEnv_get ht with ⟨e, he, p, hp, hpd, hps⟩ | ht
      · have h1 := edgesOk_eq hok i o hol e he
        have h2 := hdeps e (by simpa using bnds_mem he) h1.1
        have hlt : e.on < listed.size := by omega
        refine hL e.on p s t hp ?_ hpd hps
        rw [Array.getElem?_eq_getElem hlt]
        simp [Array.getD, hlt] at h2
        rw [h2]
      · exact hE t s ht
    refine stepQ_wp hT RA ho (hstep i o _ hol hsi (fun s => s = σ[i]'(by omega)) rfl) ?_
    rintro β' s y w' hdn R' X' rfl
    have hbf : listed[i]'hil = false := by simpa [Array.getD, hil] using h0
    refine par_any hT hd hok hbl hEm hq hσ htail hused hstep hQ m fuel _ _ _ ?_ (by omega) ?_ ?_
    · have : (listed.setIfInBounds i true).toList = listed.toList.set i true := by simp
      rw [this, List.take_set]
      have hil2 : i < (listed.toList.take q).length := by simp; omega
      rw [List.count_set hil2]
      have e1 : (listed.toList.take q)[i]'hil2 = false := by simpa using hbf
      rw [e1]
      simp only [beq_self_eq_true, if_true]
      have e2 : ((true == false) = true) = False := by simp
      simp only [e2, if_false]
      omega
    · intro j hj hjs
      rw [Array.getElem?_setIfInBounds, if_neg (by omega)]
      exact hlf j hj hjs
    · refine ⟨⟨β', R', X.trans X', ?_, ?_⟩, ?_, ?_, by simp [hls], ?_⟩
      · intro t s ht
        obtain ⟨x, hx, hdx⟩ := hE t s ht
        refine ⟨x, ?_, Den.mono X'.pre _ _ hdx⟩
        cases hod : o.dst with
        | none => simpa [Act.put] using hx
        | some d =>
          have hne : d ≠ t := fun e => hEm t s ht (e ▸ mem_dsts (show (ops.toList.take q)[i]? = some o by rw [List.getElem?_take, if_pos hiq]; exact hol) hod)
          simp only [Act.put, Array.getElem?_setIfInBounds]
          rw [if_neg hne]; exact hx
      · intro j p s d hp hj hpd hps
        by_cases hij : i = j
        · subst hij
          rw [hol] at hp
          injection hp with hp
          subst hp
          rw [hsi] at hps
          injection hps with hps
          subst hps
          have hdn' : d < a.tmps.size := by rw [I.size]; exact hbl d (mem_dsts hol hpd)
          exact ⟨y, by simp [Act.put, hpd, hdn'], hdn⟩
        · have hj' : listed[j]? = some true := by
            rw [Array.getElem?_setIfInBounds, if_neg hij] at hj; exact hj
          obtain ⟨x, hx, hdx⟩ := hL j p s d hp hj' hpd hps
          refine ⟨x, ?_, Den.mono X'.pre _ _ hdx⟩
          cases hod : o.dst with
          | none => simpa [Act.put] using hx
          | some d' =>
            have hne : d' ≠ d := by
              intro e
              subst e
              exact hij (dst_inj hd hol hp hod hpd)
            simp only [Act.put, Array.getElem?_setIfInBounds]
            rw [if_neg hne]; exact hx
      · cases o.dst <;> simp [Act.put, I.size]
      · cases o.dst <;> simp [Act.put, I.defers]
      · refine I.dc.set hol fun e he => ?_
        have h1 := edgesOk_eq hok i o hol e he
        have h2 := hdeps e (by simpa using bnds_mem he) h1.1
        have h3 : e.on < listed.size := by omega
        rw [Array.getElem?_eq_getElem h3]
        simp [Array.getD, h3] at h2
        rw [h2]

def parOkT (n q : Nat) (ops : List Oper) : Bool :=
  match parOk n ops with
  | true => match Nat.ble q ops.length with
    | true => match Nat.beq q ops.length with
      | true => true
      | false => match usedOk q (ops.take (q + 1)) with
        | true => tailOk q (ops.drop q)
        | false => false
    | false => false
  | false => false
theorem parOkT_eq {n q : Nat} {ops : List Oper} (h : parOkT n q ops = true) : parOk n ops = true ∧ q ≤ ops.length ∧ (q < ops.length → usedOk q (ops.take (q + 1)) = true ∧ tailOk q (ops.drop q) = true) := by
  unfold parOkT at h
  split at h
  case h_2 => cases h
  rename_i h1
  split at h
  case h_2 => cases h
  rename_i h2
  refine ⟨h1, Nat.le_of_ble_eq_true h2, fun hlt => ?_⟩
  split at h
  · rename_i h3; have := Nat.eq_of_beq_eq_true h3; omega
  · split at h
    · rename_i h4; exact ⟨h4, h⟩
    · cases h
theorem parOkT_use {n q : Nat} {ops : Array Oper} (h : parOkT n q ops.toList = true) : (dsts ops.toList).Nodup ∧ edgesOk 0 ops.toList = true ∧ (∀ d ∈ dsts ops.toList, d < n) ∧ q ≤ ops.size ∧
    (∀ (i : Nat) (o : Oper), ops.toList[i]? = some o → q < i → ∃ e ∈ (bnds o.after.toList), e.on + 1 = i) ∧ (q < ops.size → ∀ j, j < q → ∃ (k : Nat) (p : Oper), (ops.toList.take (q + 1))[k]? = some p ∧ ∃ e ∈ (bnds p.after.toList), e.on = j) ∧
    (∀ (i : Nat) (o : Oper), (ops.toList.drop q)[i]? = some o → 0 < i → ∃ e ∈ (bnds o.after.toList), e.on + 1 = q + i) := by
  obtain ⟨h1, h2, h3⟩ := parOkT_eq h
  have hq : q ≤ ops.size := by simpa using h2
  unfold parOk at h1
  split at h1
  · cases h1
  rename_i hdup
  split at h1
  case h_2 => cases h1
  rename_i hedge
  have hdr : ∀ (i : Nat) (o : Oper), (ops.toList.drop q)[i]? = some o → 0 < i → ∃ e ∈ (bnds o.after.toList), e.on + 1 = q + i := by
    intro i o ho hi
    have hlt : q + i < ops.toList.length := by
      rw [List.getElem?_drop] at ho
      exact (List.getElem?_eq_some_iff.1 ho).1
    obtain ⟨e, he, hei⟩ := tailOk_eqS q (h3 (by omega)).2 i o ho hi
    exact ⟨e, he, hei⟩
  refine ⟨dups_eq hdup, hedge, allBelow_eq h1, hq, fun i o ho hi => ?_, fun hlt j hj => usedOk_eq (h3 (by simpa using hlt)).1 j hj, hdr⟩
  have := hdr (i - q) o (by rw [List.getElem?_drop, show q + (i - q) = i by omega]; exact ho) (by omega)
  rw [show q + (i - q) = i by omega] at this
  exact this
/-- The first q operations in any order (they only tell values), the others behind them. -/
theorem Sx.parTail (hT : TabOk T P) (hm : P.follows .mixedOrders = true) {id n : Nat} {D : List Deferred} {ops : Array Oper} {E : Env} {H : Hp} {K : Exit → Env → Hp → Prop} (q : Nat) (hok : parOkT n q ops.toList = true)
    (h : vcPar T P ops.toList (eraseE (dsts (ops.toList.take q)) E) H (ops.toList.take q) [] fun σ => vcOps T P n ops.toList (ops.toList.drop q) (fullE ops.toList σ (eraseE (dsts (ops.toList.take q)) E)) H (K .normal)) : Sx P n D (.region id ops true) E H K := by
  obtain ⟨hnd, hedge, hbl, hq, htl, hus, hdr⟩ := parOkT_use hok
  obtain ⟨σ, hσ, hK, hstep⟩ := vcPar_upto (n := n) hedge q (by simpa using hq) (ops.toList.take q) [] _ (by simp [hq]) (fun i hi => by simp at hi ⊢; rw [List.getElem?_take, if_pos hi]; simp) (fun i o s _ hs => by simp at hs) h
  refine ⟨fun β a w R => wp_region_any hm ?_⟩
  refine par_any hT hnd hedge hbl (fun t s ht => (eraseE_get ht).2) hq hσ htl hus hstep (D := D) (β0 := β) (w0 := w) ?_ q ops.size _ a _ ?_ ?_ ?_ ?_
  · intro fuel listed a' w' I hall hnone hfl
    obtain ⟨β', R', X', hE, hL⟩ := I.ex
    have hls : listed.size = ops.size := by simpa using I.lsize
    have RA : RepA n D β' (fullE ops.toList σ (eraseE (dsts (ops.toList.take q)) E)) H a' w' := by
      refine ⟨R', I.size, I.defers, fun t s ht => ?_⟩
      rcases fullE_get ht with ⟨j, o, ho, hod, hs⟩ | ht
      · refine hL j o s t ho (hall j ?_) hod hs
        rw [← hσ]; exact (List.getElem?_eq_some_iff.1 hs).1
      · exact hE t s ht
    refine seq_any hT hedge (ops.toList.drop q) q fuel listed (by simp; omega) (fun i => by simp) hdr hls hall hnone (by simp; omega) RA hK ?_
    intro β2 E2 H2 a2 w2 R2 X2 h2
    exact ⟨β2, E2, H2, R2, X'.trans X2, h2⟩
  · simp [List.count_replicate, hq]
  · omega
  · intro j hj hjs; simp [hjs]
  · refine ⟨⟨β, R.rep.drew, Ext.drew β H w, fun t s ht => R.env t s (eraseE_get ht).1, fun j o s d _ hj => ?_⟩, R.size, R.defers, by simp, fun j o _ hj => ?_⟩
    all_goals
    have hlt := (Array.getElem?_eq_some_iff.1 hj).1
    simp at hlt
    simp [hlt] at hj
theorem Sx.par (hT : TabOk T P) (hm : P.follows .mixedOrders = true) {id n : Nat} {D : List Deferred} {ops : Array Oper} {E : Env} {H : Hp} {K : Exit → Env → Hp → Prop} (hok : parOkT n ops.size ops.toList = true)
    (h : vcPar T P ops.toList (eraseE (dsts ops.toList) E) H ops.toList [] fun σ => K .normal (fullE ops.toList σ (eraseE (dsts ops.toList) E)) H) : Sx P n D (.region id ops true) E H K := by
  refine Sx.parTail hT hm ops.size hok ?_
  have e1 : ops.toList.take ops.size = ops.toList := by rw [← Array.length_toList, List.take_length]
  have e2 : ops.toList.drop ops.size = [] := by rw [← Array.length_toList, List.drop_length]
  rw [e1, e2]
  exact h
end
end Go.Sx
