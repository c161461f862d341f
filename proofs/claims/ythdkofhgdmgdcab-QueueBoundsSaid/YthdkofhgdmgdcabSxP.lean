import Derived.Test.YthdkofhgdmgdcabSxN
/- Sx, part P: regions that draw their order and in which calls make new things. -/
set_option linter.unusedVariables false
set_option linter.unusedSimpArgs false
namespace Go.Sx
open Go

abbrev Fresh := SV → (Addr → Option Value) → List Row → Prop
section
variable {P : Program} {T : List TI}
theorem Rep.perm {β : List Nat} {H : Hp} {w : World} (R : Rep β H w) {rows : List Row} (h : rows.Perm H.rows) : Rep β { H with rows := rows } w := by
  have hp := h.filterMap (·.v.ownBlock)
  have hm : ∀ b, b ∈ owned β { H with rows := rows } ↔ b ∈ owned β H := by
    intro b
    simp only [owned, List.mem_append]
    rw [hp.mem_iff]
  exact ⟨R.len, R.nb, R.box, fun r hr => R.row r (h.mem_iff.1 hr), ((hp.append_left β).nodup_iff).2 R.nd, fun a v hv => ⟨(R.g a v hv).1, fun hm' => (R.g a v hv).2 ((hm _).1 hm')⟩⟩
/-- What one step does from a state that tells less, told of the whole. -/
theorem Rep.widen {β β' : List Nat} {H : Hp} {w w' : World} {l rs : List Row} {gc g2 : Addr → Option Value} (R : Rep β { H with g := gc, rows := H.rows ++ l } w) (hg : ∀ a v, H.g a = some v → gc a = some v)
    (R' : Rep β' { H with g := g2, rows := H.rows ++ rs } w') (X' : Ext β H w β' { H with g := g2, rows := H.rows ++ rs } w') :
    β' = β ∧ ∃ g', (∀ a v, gc a = some v → g' a = some v) ∧ (∀ a v, g2 a = some v → g' a = some v) ∧ Rep β { H with g := g', rows := H.rows ++ l ++ rs } w' ∧
      Ext β { H with g := gc, rows := H.rows ++ l } w β { H with g := g', rows := H.rows ++ l ++ rs } w' := by
  have hβ : β' = β := by
    refine (List.IsPrefix.eq_of_length X'.pre ?_).symm
    rw [R.len, R'.len]
  subst hβ
  refine ⟨rfl, ?_⟩
  have hO : ∀ b ∈ owned β' { H with g := gc, rows := H.rows ++ l }, b < w.heap.size := R.blt
  have hbase : ∀ b, b ∈ owned β' H → b ∈ owned β' { H with g := gc, rows := H.rows ++ l } := by
    intro b hb
    simp only [owned, List.filterMap_append, List.mem_append] at hb ⊢
    rcases hb with h | h
    · exact .inl h
    · exact .inr (.inl h)
  have hbase2 : ∀ b, b ∈ owned β' H → b ∈ owned β' { H with g := g2, rows := H.rows ++ rs } := by
    intro b hb
    simp only [owned, List.filterMap_append, List.mem_append] at hb ⊢
    rcases hb with h | h
    · exact .inl h
    · exact .inr (.inl h)
  have e1 : owned β' { H with g := gc, rows := H.rows ++ l } = owned β' H ++ l.filterMap (·.v.ownBlock) := by simp [owned]
  have e2 : owned β' { H with g := g2, rows := H.rows ++ rs } = owned β' H ++ rs.filterMap (·.v.ownBlock) := by simp [owned]
  have hn1 := R.nd
  have hn2 := R'.nd
  rw [e1] at hn1
  rw [e2] at hn2
  have hnew : ∀ b ∈ rs.filterMap (·.v.ownBlock), w.heap.size ≤ b := by
    intro b hb
    rcases X'.own b (by rw [e2]; exact List.mem_append_right _ hb) with h | h
    · exact absurd rfl ((List.nodup_append.1 hn2).2.2 b h b hb)
    · exact h
  have hl : ∀ b ∈ l.filterMap (·.v.ownBlock), b < w.heap.size ∧ b ∉ owned β' H := by
    intro b hb
    refine ⟨hO b (by rw [e1]; exact List.mem_append_right _ hb), fun hm => ?_⟩
    exact (List.nodup_append.1 hn1).2.2 b hm b hb rfl
  have hfr : ∀ k, k < w.heap.size → k ∉ owned β' H → w'.heap[k]? = w.heap[k]? := fun k hk hn => X'.fr.block k hk hn
  generalize hG : (fun (a : Addr) => match gc a with
    | some v => some v
    | none => g2 a) = G
  have hG1 : ∀ a v, gc a = some v → G a = some v := by intro a v hv; subst hG; simp only [hv]
  have hgc : ∀ a v, gc a = some v → w'.cell? a = some v := by
    intro a v hv
    obtain ⟨h1, h2⟩ := R.g a v hv
    rw [World.cell?_of_block (hfr a.block (World.block_lt_of_cell? w a h1) (fun hm => h2 (hbase _ hm)))]
    exact h1
  have hG2 : ∀ a v, g2 a = some v → G a = some v := by
    intro a v hv
    subst hG
    simp only
    split
    · rename_i u hu
      have h1 := hgc a u hu
      have h2 := (R'.g a v hv).1
      rw [h1] at h2
      exact h2
    · exact hv
  have hGc : ∀ a v, G a = some v → w'.cell? a = some v ∧ a.block ∉ owned β' { H with g := G, rows := H.rows ++ l ++ rs } := by
    have e3 : ∀ b, b ∈ owned β' { H with g := G, rows := H.rows ++ l ++ rs } ↔ b ∈ owned β' H ∨ b ∈ l.filterMap (·.v.ownBlock) ∨ b ∈ rs.filterMap (·.v.ownBlock) := by
      intro b
      simp only [owned, List.filterMap_append, List.mem_append]
      constructor
      · rintro (h | (h | h) | h)
        · exact .inl (.inl h)
        · exact .inl (.inr h)
        · exact .inr (.inl h)
        · exact .inr (.inr h)
      · rintro ((h | h) | h | h)
        · exact .inl h
        · exact .inr (.inl (.inl h))
        · exact .inr (.inl (.inr h))
        · exact .inr (.inr h)
    intro a v hv
    subst hG
    simp only at hv
    split at hv
    · rename_i u hu
      injection hv with hv
      subst hv
      refine ⟨hgc a u hu, fun hm => ?_⟩
      obtain ⟨h1, h2⟩ := R.g a u hu
      have hlt := World.block_lt_of_cell? w a h1
      rcases (e3 _).1 hm with h | h | h
      · exact h2 (hbase _ h)
      · exact h2 (by rw [e1]; exact List.mem_append_right _ h)
      · have := hnew _ h; omega
    · rename_i hn
      obtain ⟨h1, h2⟩ := R'.g a v hv
      refine ⟨h1, fun hm => ?_⟩
      rcases (e3 _).1 hm with h | h | h
      · exact h2 (hbase2 _ h)
      · rcases X'.gn a v hv with h3 | h3 | h3
        · rw [hg a v h3] at hn; cases hn
        · exact (hl _ h).2 h3
        · have := (hl _ h).1; omega
      · exact h2 (by rw [e2]; exact List.mem_append_right _ h)
  refine ⟨G, hG1, hG2, ⟨R'.len, R'.nb, R'.box, ?_, ?_, hGc⟩, ⟨List.prefix_refl _, ⟨X'.fr.os, X'.fr.tape, X'.fr.output, X'.fr.size, fun k hk hn => hfr k hk (fun hm => hn (hbase _ hm))⟩, ?_, hG1, ?_⟩⟩
  · intro r hr
    rcases List.mem_append.1 hr with hr | hr
    · rcases List.mem_append.1 hr with hr | hr
      · exact R'.row r (List.mem_append_left _ hr)
      · have h1 := R.row r (List.mem_append_right _ hr)
        refine ⟨h1.1, ?_⟩
        rcases h1.2 with hn | ⟨g, cap, cur, hv, h0, hh, rest⟩
        · exact .inl hn
        · refine .inr ⟨g, cap, cur, hv, h0, ?_, rest⟩
          have hm : g ∈ l.filterMap (·.v.ownBlock) := List.mem_filterMap.2 ⟨r, hr, by rw [hv]; rfl⟩
          rw [hfr g (hl g hm).1 (hl g hm).2]
          exact hh
    · exact R'.row r (List.mem_append_right _ hr)
  · have e3 : owned β' { H with g := G, rows := H.rows ++ l ++ rs } = owned β' H ++ (l.filterMap (·.v.ownBlock) ++ rs.filterMap (·.v.ownBlock)) := by simp [owned]
    rw [e3]
    obtain ⟨a1, a2, a3⟩ := List.nodup_append.1 hn1
    obtain ⟨b1, b2, b3⟩ := List.nodup_append.1 hn2
    refine List.nodup_append.2 ⟨a1, List.nodup_append.2 ⟨a2, b2, fun x hx y hy e => ?_⟩, fun x hx y hy e => ?_⟩
    · subst e; have := hnew _ hy; have := (hl _ hx).1; omega
    · subst e
      rcases List.mem_append.1 hy with hy | hy
      · exact a3 x hx x hy rfl
      · exact b3 x hx x hy rfl
  · intro b hb
    have hb' : b ∈ owned β' H ++ (l.filterMap (·.v.ownBlock) ++ rs.filterMap (·.v.ownBlock)) := by simpa [owned] using hb
    rcases List.mem_append.1 hb' with h | h
    · exact .inl (hbase _ h)
    · rcases List.mem_append.1 h with h | h
      · exact .inl (by rw [e1]; exact List.mem_append_right _ h)
      · exact .inr (hnew b h)
  · intro a v hv
    subst hG
    simp only at hv
    split at hv
    · rename_i u hu; injection hv with hv; subst hv; exact .inl hu
    · rcases X'.gn a v hv with h3 | h3 | h3
      · exact .inl (hg a v h3)
      · exact .inr (.inl (hbase _ h3))
      · exact .inr (.inr h3)

/-- An operation that makes new things: whoever proves says what holds of them. -/
structure FreshQ (T : List TI) (P : Program) (o : Oper) (E : Env) (H : Hp) (k : Fresh → Prop) : Prop where
  ex : ∃ Φ : Fresh, (∀ s g g' rs, (∀ a v, g a = some v → g' a = some v) → Φ s g rs → Φ s g' rs) ∧
    opC T P o E H (fun s H' => ∃ g' rs, H' = { H with g := g', rows := H.rows ++ rs } ∧ Φ s g' rs) ∧ k Φ
def isF : List Nat → Nat → Bool := fun F i => isIn i F
/-- The quiet ones. -/
noncomputable def vcA (T : List TI) (P : Program) (ops : List Oper) (F : List Nat) (Em : Env) (H : Hp) (l : List Oper) : Nat → List SV → (List SV → Prop) → Prop :=
  List.rec (motive := fun _ => Nat → List SV → (List SV → Prop) → Prop) (fun _ σ K => K σ)
    (fun o _ next i σ K => match isIn i F with
      | true => lf (σ ++ [.v undef]) fun σ => next (i + 1) σ K
      | false => stepQ T P ops o (depEnv ops σ (bnds o.after.toList) Em) H fun s => lf (σ ++ [s]) fun σ => next (i + 1) σ K) l
/-- Those that make new things. -/
noncomputable def vcF (T : List TI) (P : Program) (ops : List Oper) (F : List Nat) (Em : Env) (H : Hp) (σ : List SV) (l : List Oper) : Nat → List (Option Fresh) → (List (Option Fresh) → Prop) → Prop :=
  List.rec (motive := fun _ => Nat → List (Option Fresh) → (List (Option Fresh) → Prop) → Prop) (fun _ φ K => K φ)
    (fun o _ next i φ K => match isIn i F with
      | true => FreshQ T P o (depEnv ops σ (bnds o.after.toList) Em) H fun Φ => lf (φ ++ [some Φ]) fun φ => next (i + 1) φ K
      | false => lf (φ ++ [none]) fun φ => next (i + 1) φ K) l
/-- Their results. -/
noncomputable def bindF (g : Addr → Option Value) (φ : List (Option Fresh)) : List SV → List SV → List Row → (List SV → List Row → Prop) → Prop :=
  List.rec (motive := fun _ => List SV → List SV → List Row → (List SV → List Row → Prop) → Prop) (fun _ τ rows K => K τ rows)
    (fun x _ next σ τ rows K => match σ with
      | [] => False
      | s :: σ => match x with
        | none => lf (τ ++ [s]) fun τ => next σ τ rows K
        | some Φ => ∀ s rs, Φ s g rs → lf (τ ++ [s]) fun τ => lf (rows ++ rs) fun rows => next σ τ rows K) φ

theorem flat_upd {ρ : Nat → List Row} {i : Nat} {rs : List Row} (h0 : ρ i = []) : ∀ {L : List Nat}, L.Nodup → i ∈ L → (L.flatMap fun j => if j = i then rs else ρ j).Perm (L.flatMap ρ ++ rs)
  | [], _, h => by simp at h
  | x :: L, hn, hm => by
    obtain ⟨h1, h2⟩ := List.nodup_cons.1 hn
    simp only [List.flatMap_cons]
    by_cases hx : x = i
    · subst hx
      rw [if_pos rfl, h0, List.nil_append]
      have : (L.flatMap fun j => if j = x then rs else ρ j) = L.flatMap ρ := by
        simp only [List.flatMap_def]
        congr 1
        exact List.map_congr_left fun j hj => if_neg (fun (e : j = x) => h1 (e ▸ hj))
      rw [this]
      exact List.perm_append_comm
    · rw [if_neg hx, List.append_assoc]
      exact (flat_upd h0 h2 (by rcases List.mem_cons.1 hm with h | h; exact absurd h.symm hx; exact h)).append_left _
theorem Rep.narrow {β : List Nat} {H : Hp} {w : World} {l : List Row} {gc : Addr → Option Value} (R : Rep β { H with g := gc, rows := H.rows ++ l } w) (hg : ∀ a v, H.g a = some v → gc a = some v) : Rep β H w := by
  have hb : ∀ b, b ∈ owned β H → b ∈ owned β { H with g := gc, rows := H.rows ++ l } := by
    intro b hb
    simp only [owned, List.filterMap_append, List.mem_append] at hb ⊢
    rcases hb with h | h
    · exact .inl h
    · exact .inr (.inl h)
  refine ⟨R.len, R.nb, R.box, fun r hr => R.row r (List.mem_append_left _ hr), ?_, fun a v hv => ⟨(R.g a v (hg a v hv)).1, fun hm => (R.g a v (hg a v hv)).2 (hb _ hm)⟩⟩
  have := R.nd
  simp only [owned, List.filterMap_append] at this ⊢
  rw [← List.append_assoc] at this
  exact (List.nodup_append.1 this).1

structure ParInvF (n : Nat) (D : List Deferred) (ops : List Oper) (Em : Env) (H : Hp) (σ : List SV) (φ : List (Option Fresh)) (β0 : List Nat) (w0 : World) (listed : Array Bool) (a : Act) (w : World) : Prop where
  ex : ∃ (β : List Nat) (gc : Addr → Option Value) (ρ : Nat → List Row), Rep β { H with g := gc, rows := H.rows ++ (List.range ops.length).flatMap ρ } w ∧ Ext β0 H w0 β { H with g := gc, rows := H.rows ++ (List.range ops.length).flatMap ρ } w ∧
    (∀ a v, H.g a = some v → gc a = some v) ∧
    (∀ (t : Nat) (s : SV), get Em t = some s → ∃ x, a.tmps[t]? = some x ∧ Den β s x) ∧
    (∀ j, listed[j]? ≠ some true → ρ j = []) ∧
    (∀ j, φ[j]? = some none → ρ j = []) ∧
    (∀ (j : Nat) (o : Oper) (s : SV) (d : Nat), ops[j]? = some o → listed[j]? = some true → o.dst = some d → φ[j]? = some none → σ[j]? = some s → ∃ x, a.tmps[d]? = some x ∧ Den β s x) ∧
    (∀ (j : Nat) (o : Oper) (Φ : Fresh), ops[j]? = some o → listed[j]? = some true → φ[j]? = some (some Φ) → ∃ s, Φ s gc (ρ j) ∧ ∀ d, o.dst = some d → ∃ x, a.tmps[d]? = some x ∧ Den β s x)
  size : a.tmps.size = n
  defers : a.defers = D
  lsize : listed.size = ops.length
  dc : Down ops listed

theorem par_anyF (hT : TabOk T P) {n : Nat} {D : List Deferred} {ops : Array Oper} {q : Nat} {Em : Env} {H : Hp} {σ : List SV} {φ : List (Option Fresh)} {β0 : List Nat} {w0 : World} {Q : Exit → Act → World → Prop}
    (hd : (dsts ops.toList).Nodup) (hok : edgesOk 0 ops.toList = true) (hbl : ∀ d ∈ dsts ops.toList, d < n) (hEm : ∀ t s, get Em t = some s → t ∉ dsts (ops.toList.take q)) (hq : q ≤ ops.size) (hσ : σ.length = q) (hφ : φ.length = q)
    (htail : ∀ (i : Nat) (o : Oper), ops.toList[i]? = some o → q < i → ∃ e ∈ (bnds o.after.toList), e.on + 1 = i)
    (hused : q < ops.size → ∀ j, j < q → ∃ (k : Nat) (p : Oper), (ops.toList.take (q + 1))[k]? = some p ∧ ∃ e ∈ (bnds p.after.toList), e.on = j)
    (hind : ∀ (i : Nat) (o : Oper), ops.toList[i]? = some o → i < q → ∀ e ∈ (bnds o.after.toList), φ[e.on]? = some none)
    (hgd : ∀ (i : Nat) (o : Oper) (Φ : Fresh), ops.toList[i]? = some o → φ[i]? = some (some Φ) → o.guard = none)
    (hmono : ∀ (i : Nat) (Φ : Fresh), φ[i]? = some (some Φ) → ∀ s g g' rs, (∀ a v, g a = some v → g' a = some v) → Φ s g rs → Φ s g' rs)
    (hstepA : ∀ (i : Nat) (o : Oper) (s : SV), ops.toList[i]? = some o → φ[i]? = some none → σ[i]? = some s → ∀ k' : SV → Prop, k' s → stepQ T P ops.toList o (depEnv ops.toList σ (bnds o.after.toList) Em) H k')
    (hstepF : ∀ (i : Nat) (o : Oper) (Φ : Fresh), ops.toList[i]? = some o → φ[i]? = some (some Φ) → opC T P o (depEnv ops.toList σ (bnds o.after.toList) Em) H (fun s H' => ∃ g' rs, H' = { H with g := g', rows := H.rows ++ rs } ∧ Φ s g' rs))
    (hQ : ∀ fuel listed a w, ParInvF n D ops.toList Em H σ φ β0 w0 listed a w → (∀ j, j < q → listed[j]? = some true) → (∀ j, q ≤ j → j < ops.size → listed[j]? = some false) → ops.size - q ≤ fuel → wpAny P .any ops Q fuel listed a w) :
    ∀ (m fuel : Nat) (listed : Array Bool) (a : Act) (w : World), (listed.toList.take q).count false = m → m + (ops.size - q) ≤ fuel → (∀ j, q ≤ j → j < ops.size → listed[j]? = some false) → ParInvF n D ops.toList Em H σ φ β0 w0 listed a w → wpAny P .any ops Q fuel listed a w
  | 0, fuel, listed, a, w, hc, hf, hlf, I => by
    have hls : listed.size = ops.size := by simpa using I.lsize
    refine hQ fuel listed a w I (fun j hj => ?_) hlf (by omega)
    have hlt : j < listed.size := by omega
    cases hb : listed[j]'hlt with
    | true => rw [Array.getElem?_eq_getElem hlt, hb]
    | false =>
      have : 0 < (listed.toList.take q).count false := by
        refine List.count_pos_iff.2 ?_
        rw [List.mem_iff_getElem?]
        exact ⟨j, by rw [List.getElem?_take, if_pos hj]; simp [hlt, hb]⟩
      omega
  | m + 1, 0, listed, a, w, hc, hf, hlf, I => by omega
  | m + 1, fuel + 1, listed, a, w, hc, hf, hlf, I => by
    have hls : listed.size = ops.size := by simpa using I.lsize
    refine ⟨fun hr => ?_, fun i hi => ?_⟩
    · exfalso
      have hall := ready_nil hok hls hr
      have hpos : 0 < (listed.toList.take q).count false := by omega
      obtain ⟨j, hj⟩ := List.mem_iff_getElem?.1 (List.count_pos_iff.1 hpos)
      rw [List.getElem?_take] at hj
      split at hj
      · rename_i hjq
        have h1 := hall j (by omega)
        have h2 : listed.toList[j]? = some true := by simpa using h1
        rw [h2] at hj
        cases hj
      · cases hj
    rw [mem_ready] at hi
    obtain ⟨h0, o, ho, hdeps⟩ := hi
    have hilt := (Array.getElem?_eq_some_iff.1 ho).1
    have hil : i < listed.size := by omega
    have hol : ops.toList[i]? = some o := by simpa using ho
    have hiq : i < q := by
      rcases Nat.lt_or_ge i q with h | h
      · exact h
      · exfalso
        have hpos : 0 < (listed.toList.take q).count false := by omega
        obtain ⟨j, hj⟩ := List.mem_iff_getElem?.1 (List.count_pos_iff.1 hpos)
        rw [List.getElem?_take] at hj
        split at hj
        · rename_i hjq
          have hdl : ∀ e ∈ (bnds o.after.toList), listed[e.on]? = some true := by
            intro e he
            have h1 := edgesOk_eq hok i o hol e he
            have h2 := hdeps e (by simpa using bnds_mem he) h1.1
            have h3 : e.on < listed.size := by omega
            rw [Array.getElem?_eq_getElem h3]
            simp [Array.getD, h3] at h2
            rw [h2]
          by_cases hiq : q < i
          · obtain ⟨e, he, hej⟩ := htail i o hol hiq
            have h1 := hdl e he
            rw [hlf e.on (by omega) (by omega)] at h1
            cases h1
          · have hqi : q = i := by omega
            subst hqi
            have h1 := I.dc.all hok hol hdl (hused hilt) (q - j) j rfl hjq
            have h4 : listed.toList[j]? = some true := by simpa using h1
            rw [h4] at hj
            cases hj
        · cases hj
    obtain ⟨β, gc, ρ, R, X, hgc, hE, hρ1, hρ2, hLA, hLF⟩ := I.ex
    have hsi : σ[i]? = some (σ[i]'(by omega)) := List.getElem?_eq_getElem _
    have hbf : listed[i]'hil = false := by simpa [Array.getD, hil] using h0
    have hli : listed[i]? ≠ some true := by rw [Array.getElem?_eq_getElem hil, hbf]; simp
    have RA : RepA n D β (depEnv ops.toList σ (bnds o.after.toList) Em) H a w := by
      refine ⟨R.narrow hgc, I.size, I.defers, fun t s ht => ?_⟩
      rcases depEnv_get ht with ⟨e, he, p, hp, hpd, hps⟩ | ht
      · have h1 := edgesOk_eq hok i o hol e he
        have h2 := hdeps e (by simpa using bnds_mem he) h1.1
        have hlt : e.on < listed.size := by omega
        refine hLA e.on p s t hp ?_ hpd (hind i o hol hiq e he) hps
        rw [Array.getElem?_eq_getElem hlt]
        simp [Array.getD, hlt] at h2
        rw [h2]
      · exact hE t s ht
    have hcount : ((listed.setIfInBounds i true).toList.take q).count false = m := by
      have : (listed.setIfInBounds i true).toList = listed.toList.set i true := by simp
      rw [this, List.take_set]
      have hil2 : i < (listed.toList.take q).length := by simp; omega
      rw [List.count_set hil2]
      have e1 : (listed.toList.take q)[i]'hil2 = false := by simpa using hbf
      rw [e1]
      simp only [beq_self_eq_true, if_true]
      have e2 : ((true == false) = true) = False := by simp
      simp only [e2, if_false]
      omega
    have hlf' : ∀ j, q ≤ j → j < ops.size → (listed.setIfInBounds i true)[j]? = some false := by
      intro j hj hjs
      rw [Array.getElem?_setIfInBounds, if_neg (by omega)]
      exact hlf j hj hjs
    have hdc' : Down ops.toList (listed.setIfInBounds i true) := by
      refine I.dc.set hol fun e he => ?_
      have h1 := edgesOk_eq hok i o hol e he
      have h2 := hdeps e (by simpa using bnds_mem he) h1.1
      have h3 : e.on < listed.size := by omega
      rw [Array.getElem?_eq_getElem h3]
      simp [Array.getD, h3] at h2
      rw [h2]
    have hlj : ∀ j, i ≠ j → (listed.setIfInBounds i true)[j]? = listed[j]? := by
      intro j hj
      rw [Array.getElem?_setIfInBounds, if_neg hj]
    -- what is known of the others stays
    have keepE : ∀ (y : Value) (t : Nat) (s : SV), get Em t = some s → ∃ x, (a.put o.dst y).tmps[t]? = some x ∧ Den β s x := by
      intro y t s ht
      obtain ⟨x, hx, hdx⟩ := hE t s ht
      refine ⟨x, ?_, hdx⟩
      cases hod : o.dst with
      | none => simpa [Act.put] using hx
      | some d =>
        have hne : d ≠ t := fun e => hEm t s ht (e ▸ mem_dsts (show (ops.toList.take q)[i]? = some o by rw [List.getElem?_take, if_pos hiq]; exact hol) hod)
        simp only [Act.put, Array.getElem?_setIfInBounds]
        rw [if_neg hne]; exact hx
    have keepD : ∀ (y : Value) (j : Nat) (p : Oper) (d : Nat) (x : Value), i ≠ j → ops.toList[j]? = some p → p.dst = some d → a.tmps[d]? = some x → (a.put o.dst y).tmps[d]? = some x := by
      intro y j p d x hij hp hpd hx
      cases hod : o.dst with
      | none => simpa [Act.put] using hx
      | some d' =>
        have hne : d' ≠ d := by
          intro e
          subst e
          exact hij (dst_inj hd hol hp hod hpd)
        simp only [Act.put, Array.getElem?_setIfInBounds]
        rw [if_neg hne]; exact hx
    have self : ∀ (y : Value) (d : Nat), o.dst = some d → (a.put o.dst y).tmps[d]? = some y := by
      intro y d hod
      have hdn' : d < a.tmps.size := by rw [I.size]; exact hbl d (mem_dsts hol hod)
      simp [Act.put, hod, hdn']
    have hii : i < φ.length := by omega
    have hfi : φ[i]? = some (φ[i]'hii) := List.getElem?_eq_getElem _
    cases hph : φ[i]'hii with
    | none =>
      rw [hph] at hfi
      refine stepQ_wp hT RA ho (hstepA i o _ hol hfi hsi (fun s => s = σ[i]'(by omega)) rfl) ?_
      rintro β' s y w' hdn R' X' rfl
      obtain ⟨rfl, g', hg1, hg2, R2, X2⟩ := R.widen (rs := []) (g2 := H.g) hgc (by simpa using R') (by simpa using X')
      simp only [List.append_nil] at R2 X2
      refine par_anyF hT hd hok hbl hEm hq hσ hφ htail hused hind hgd hmono hstepA hstepF hQ m fuel _ _ _ hcount (by omega) hlf' ?_
      refine ⟨⟨β', g', ρ, R2, X.trans X2, fun a v hv => hg1 a v (hgc a v hv), keepE y, ?_, hρ2, ?_, ?_⟩, ?_, ?_, by simp [hls], hdc'⟩
      · intro j hj
        by_cases hij : i = j
        · subst hij; exact hρ2 i hfi
        · rw [hlj j hij] at hj; exact hρ1 j hj
      · intro j p s d hp hj hpd hpf hps
        by_cases hij : i = j
        · subst hij
          rw [hol] at hp
          injection hp with hp
          subst hp
          rw [hsi] at hps
          injection hps with hps
          subst hps
          exact ⟨y, self y d hpd, hdn⟩
        · rw [hlj j hij] at hj
          obtain ⟨x, hx, hdx⟩ := hLA j p s d hp hj hpd hpf hps
          exact ⟨x, keepD y j p d x hij hp hpd hx, hdx⟩
      · intro j p Φ hp hj hpf
        have hij : i ≠ j := by intro e; subst e; rw [hfi] at hpf; cases hpf
        rw [hlj j hij] at hj
        obtain ⟨s, h1, h2⟩ := hLF j p Φ hp hj hpf
        refine ⟨s, hmono j Φ hpf s _ _ _ hg1 h1, fun d hpd => ?_⟩
        obtain ⟨x, hx, hdx⟩ := h2 d hpd
        exact ⟨x, keepD y j p d x hij hp hpd hx, hdx⟩
      · cases o.dst <;> simp [Act.put, I.size]
      · cases o.dst <;> simp [Act.put, I.defers]
    | some Φ =>
      rw [hph] at hfi
      have hg0 := hgd i o Φ hol hfi
      unfold wpOp
      simp only [ho]
      rw [if_pos (by simp [Region.wanted, hg0])]
      refine .inl (opC_wp hT RA (hstepF i o Φ hol hfi) ?_)
      rintro β' s y H' w' hdn R' X' ⟨g2, rs, rfl, hΦ⟩
      obtain ⟨rfl, g', hg1, hg2, R2, X2⟩ := R.widen (rs := rs) (g2 := g2) hgc R' X'
      have hρi : ρ i = [] := hρ1 i hli
      have hpm : (H.rows ++ (List.range ops.toList.length).flatMap fun j => if j = i then rs else ρ j).Perm (H.rows ++ (List.range ops.toList.length).flatMap ρ ++ rs) := by
        rw [List.append_assoc]
        exact (flat_upd hρi List.nodup_range (by simp; omega)).append_left _
      have R3 := R2.perm hpm
      have X3 : Ext β' { H with g := gc, rows := H.rows ++ (List.range ops.toList.length).flatMap ρ } w β' { H with g := g', rows := H.rows ++ (List.range ops.toList.length).flatMap fun j => if j = i then rs else ρ j } w' := by
        have hm : ∀ b, b ∈ owned β' { H with g := g', rows := H.rows ++ (List.range ops.toList.length).flatMap fun j => if j = i then rs else ρ j } → b ∈ owned β' { H with g := g', rows := H.rows ++ (List.range ops.toList.length).flatMap ρ ++ rs } := by
          intro b hb
          simp only [owned, List.mem_append] at hb ⊢
          rcases hb with h | h
          · exact .inl h
          · exact .inr (((hpm.filterMap (·.v.ownBlock)).mem_iff).1 h)
        exact ⟨X2.pre, X2.fr, fun b hb => X2.own b (hm b hb), X2.g, X2.gn⟩
      refine par_anyF hT hd hok hbl hEm hq hσ hφ htail hused hind hgd hmono hstepA hstepF hQ m fuel _ _ _ hcount (by omega) hlf' ?_
      refine ⟨⟨β', g', fun j => if j = i then rs else ρ j, R3, X.trans X3, fun a v hv => hg1 a v (hgc a v hv), keepE y, ?_, ?_, ?_, ?_⟩, ?_, ?_, by simp [hls], hdc'⟩
      · intro j hj
        by_cases hij : i = j
        · subst hij
          rw [Array.getElem?_setIfInBounds] at hj
          simp [hil] at hj
        · rw [hlj j hij] at hj
          simp only
          rw [if_neg (fun e => hij e.symm)]; exact hρ1 j hj
      · intro j hj
        have hij : j ≠ i := by intro e; subst e; rw [hfi] at hj; cases hj
        simp only
        rw [if_neg hij]; exact hρ2 j hj
      · intro j p s' d hp hj hpd hpf hps
        have hij : i ≠ j := by intro e; subst e; rw [hfi] at hpf; cases hpf
        rw [hlj j hij] at hj
        obtain ⟨x, hx, hdx⟩ := hLA j p s' d hp hj hpd hpf hps
        exact ⟨x, keepD y j p d x hij hp hpd hx, hdx⟩
      · intro j p Φ' hp hj hpf
        by_cases hij : i = j
        · subst hij
          rw [hfi] at hpf
          injection hpf with hpf
          injection hpf with hpf
          subst hpf
          rw [hol] at hp
          injection hp with hp
          subst hp
          refine ⟨s, ?_, fun d hpd => ⟨y, self y d hpd, hdn⟩⟩
          simp only [if_true]
          exact hmono i Φ hfi s _ _ _ hg2 hΦ
        · rw [hlj j hij] at hj
          obtain ⟨s', h1, h2⟩ := hLF j p Φ' hp hj hpf
          refine ⟨s', ?_, fun d hpd => ?_⟩
          · simp only
            rw [if_neg (fun e => hij e.symm)]
            exact hmono j Φ' hpf s' _ _ _ hg1 h1
          · obtain ⟨x, hx, hdx⟩ := h2 d hpd
            exact ⟨x, keepD y j p d x hij hp hpd hx, hdx⟩
      · cases o.dst <;> simp [Act.put, I.size]
      · cases o.dst <;> simp [Act.put, I.defers]

def allNone (F : List Nat) : List Edge → Bool
  | [] => true
  | e :: r => match isIn e.on F with | true => false | false => allNone F r
def indOk (F : List Nat) : Nat → Nat → List Oper → Bool
  | _, _, [] => true
  | 0, _, _ => true
  | q + 1, i, o :: r => match allNone F (bnds o.after.toList) with
    | true => match isIn i F with
      | true => match o.guard with | none => indOk F q (i + 1) r | some _ => false
      | false => indOk F q (i + 1) r
    | false => false
def parOkF (n q : Nat) (F : List Nat) (ops : List Oper) : Bool :=
  match parOkT n q ops with
  | true => indOk F q 0 ops
  | false => false
theorem allNone_eq {F : List Nat} : ∀ {l : List Edge}, allNone F l = true → ∀ e ∈ l, isIn e.on F = false
  | [], _, e, he => by simp at he
  | x :: r, h, e, he => by
    simp only [allNone] at h
    split at h
    · cases h
    · rename_i hx
      rcases List.mem_cons.1 he with rfl | he
      · exact hx
      · exact allNone_eq h e he
theorem indOk_eq {F : List Nat} : ∀ {q i0 : Nat} {l : List Oper}, indOk F q i0 l = true → ∀ (i : Nat) (o : Oper), l[i]? = some o → i < q → (∀ e ∈ (bnds o.after.toList), isIn e.on F = false) ∧ (isIn (i0 + i) F = true → o.guard = none)
  | q, i0, [], _, i, o, h, _ => by simp at h
  | 0, i0, x :: r, _, i, o, _, h => absurd h (Nat.not_lt_zero _)
  | q + 1, i0, x :: r, h, i, o, ho, hi => by
    simp only [indOk] at h
    split at h
    case h_2 => cases h
    rename_i hx
    cases i with
    | zero =>
      simp at ho; subst ho
      refine ⟨allNone_eq hx, fun hF => ?_⟩
      split at h
      · split at h
        · assumption
        · cases h
      · rename_i hn
        rw [Nat.add_zero] at hF
        rw [hF] at hn
        cases hn
    | succ i =>
      simp at ho
      have hr : indOk F q (i0 + 1) r = true := by
        split at h
        · split at h
          · exact h
          · cases h
        · exact h
      have := indOk_eq hr i o ho (by omega)
      rw [show i0 + (i + 1) = i0 + 1 + i by omega]
      exact this
theorem vcA_upto {ops : List Oper} {F : List Nat} {Em : Env} {H : Hp} (hok : edgesOk 0 ops = true) (q : Nat) (hq : q ≤ ops.length) : ∀ (r : List Oper) (σ : List SV) (K : List SV → Prop), σ.length + r.length = q → (∀ i, σ.length + i < q → r[i]? = ops[σ.length + i]?) →
    (∀ (i : Nat) (o : Oper) (s : SV), ops[i]? = some o → isIn i F = false → σ[i]? = some s → ∀ k' : SV → Prop, k' s → stepQ T P ops o (depEnv ops σ (bnds o.after.toList) Em) H k') →
    vcA T P ops F Em H r σ.length σ K → ∃ σ' : List SV, σ'.length = q ∧ K σ' ∧
      ∀ (i : Nat) (o : Oper) (s : SV), ops[i]? = some o → isIn i F = false → σ'[i]? = some s → ∀ k' : SV → Prop, k' s → stepQ T P ops o (depEnv ops σ' (bnds o.after.toList) Em) H k'
  | [], σ, K, hl, _, hs, h => ⟨σ, by simpa using hl, h, hs⟩
  | o :: r, σ, K, hl, hr, hs, h => by
    have ho : ops[σ.length]? = some o := by have := hr 0 (by simp at hl; omega); simpa using this.symm
    have hdep : ∀ (s : SV) (i : Nat) (p : Oper), ops[i]? = some p → i ≤ σ.length → depEnv ops (σ ++ [s]) (bnds p.after.toList) Em = depEnv ops σ (bnds p.after.toList) Em := by
      intro s i p hp hi
      refine depEnv_congr fun e he => ?_
      have := (edgesOk_eq hok i p hp e he).2
      rw [nth_eq, nth_eq, List.getElem?_append_left (by omega)]
    have rec_ : ∀ s : SV, vcA T P ops F Em H r (σ.length + 1) (σ ++ [s]) K → (isIn σ.length F = false → ∀ k' : SV → Prop, k' s → stepQ T P ops o (depEnv ops σ (bnds o.after.toList) Em) H k') → ∃ σ' : List SV, σ'.length = q ∧ K σ' ∧
        ∀ (i : Nat) (o : Oper) (s : SV), ops[i]? = some o → isIn i F = false → σ'[i]? = some s → ∀ k' : SV → Prop, k' s → stepQ T P ops o (depEnv ops σ' (bnds o.after.toList) Em) H k' := by
      intro s h1 h2
      refine vcA_upto hok q hq r (σ ++ [s]) K (by simp at hl ⊢; omega) (fun i hi => ?_) ?_ (by simpa using h1)
      · have := hr (i + 1) (by simp at hi; omega)
        simp at this ⊢
        rw [this]; congr 1; omega
      · intro i p u hp hF hu k' hk'
        rcases Nat.lt_or_ge i σ.length with hlt | hge
        · rw [hdep s i p hp (Nat.le_of_lt hlt)]
          rw [List.getElem?_append_left hlt] at hu
          exact hs i p u hp hF hu k' hk'
        · have hi : i = σ.length := by
            have := (List.getElem?_eq_some_iff.1 hu).1
            simp at this; omega
          subst hi
          rw [hdep s _ p hp (Nat.le_refl _)]
          rw [List.getElem?_append_right (Nat.le_refl _)] at hu
          simp at hu
          subst hu
          rw [ho] at hp
          injection hp with hp
          subst hp
          exact h2 hF k' hk'
    have h : (match isIn σ.length F with
      | true => lf (σ ++ [.v undef]) fun σ' => vcA T P ops F Em H r (σ.length + 1) σ' K
      | false => stepQ T P ops o (depEnv ops σ (bnds o.after.toList) Em) H fun s => lf (σ ++ [s]) fun σ' => vcA T P ops F Em H r (σ.length + 1) σ' K : Prop) := h
    split at h
    · rename_i hF
      rw [lf_eq] at h
      exact rec_ _ h (fun hF' => by rw [hF] at hF'; cases hF')
    · rename_i hF
      obtain ⟨s, h1, h2⟩ := stepQ_det h
      rw [lf_eq] at h1
      exact rec_ s h1 (fun _ k' hk' => h2 k' hk')
theorem vcF_upto {ops : List Oper} {F : List Nat} {Em : Env} {H : Hp} {σ : List SV} (q : Nat) : ∀ (r : List Oper) (φ : List (Option Fresh)) (K : List (Option Fresh) → Prop), φ.length + r.length = q → (∀ i, φ.length + i < q → r[i]? = ops[φ.length + i]?) →
    (∀ (i : Nat) (x : Option Fresh), φ[i]? = some x → (isIn i F = false → x = none) ∧ (isIn i F = true → ∃ Φ, x = some Φ)) →
    (∀ (i : Nat) (o : Oper) (Φ : Fresh), ops[i]? = some o → φ[i]? = some (some Φ) → (∀ s g g' rs, (∀ a v, g a = some v → g' a = some v) → Φ s g rs → Φ s g' rs) ∧ opC T P o (depEnv ops σ (bnds o.after.toList) Em) H (fun s H' => ∃ g' rs, H' = { H with g := g', rows := H.rows ++ rs } ∧ Φ s g' rs)) →
    vcF T P ops F Em H σ r φ.length φ K → ∃ φ' : List (Option Fresh), φ'.length = q ∧ K φ' ∧ (∀ (i : Nat) (x : Option Fresh), φ'[i]? = some x → (isIn i F = false → x = none) ∧ (isIn i F = true → ∃ Φ, x = some Φ)) ∧
      ∀ (i : Nat) (o : Oper) (Φ : Fresh), ops[i]? = some o → φ'[i]? = some (some Φ) → (∀ s g g' rs, (∀ a v, g a = some v → g' a = some v) → Φ s g rs → Φ s g' rs) ∧ opC T P o (depEnv ops σ (bnds o.after.toList) Em) H (fun s H' => ∃ g' rs, H' = { H with g := g', rows := H.rows ++ rs } ∧ Φ s g' rs)
  | [], φ, K, hl, _, hx, hs, h => ⟨φ, by simpa using hl, h, hx, hs⟩
  | o :: r, φ, K, hl, hr, hx, hs, h => by
    have ho : ops[φ.length]? = some o := by have := hr 0 (by simp at hl; omega); simpa using this.symm
    have rec_ : ∀ x : Option Fresh, vcF T P ops F Em H σ r (φ.length + 1) (φ ++ [x]) K → ((isIn φ.length F = false → x = none) ∧ (isIn φ.length F = true → ∃ Φ, x = some Φ)) →
        (∀ Φ, x = some Φ → (∀ s g g' rs, (∀ a v, g a = some v → g' a = some v) → Φ s g rs → Φ s g' rs) ∧ opC T P o (depEnv ops σ (bnds o.after.toList) Em) H (fun s H' => ∃ g' rs, H' = { H with g := g', rows := H.rows ++ rs } ∧ Φ s g' rs)) →
        ∃ φ' : List (Option Fresh), φ'.length = q ∧ K φ' ∧ (∀ (i : Nat) (x : Option Fresh), φ'[i]? = some x → (isIn i F = false → x = none) ∧ (isIn i F = true → ∃ Φ, x = some Φ)) ∧
          ∀ (i : Nat) (o : Oper) (Φ : Fresh), ops[i]? = some o → φ'[i]? = some (some Φ) → (∀ s g g' rs, (∀ a v, g a = some v → g' a = some v) → Φ s g rs → Φ s g' rs) ∧ opC T P o (depEnv ops σ (bnds o.after.toList) Em) H (fun s H' => ∃ g' rs, H' = { H with g := g', rows := H.rows ++ rs } ∧ Φ s g' rs) := by
      intro x h1 h2 h3
      refine vcF_upto q r (φ ++ [x]) K (by simp at hl ⊢; omega) (fun i hi => ?_) ?_ ?_ (by simpa using h1)
      · have := hr (i + 1) (by simp at hi; omega)
        simp at this ⊢
        rw [this]; congr 1; omega
      · intro i y hy
        rcases Nat.lt_or_ge i φ.length with hlt | hge
        · rw [List.getElem?_append_left hlt] at hy; exact hx i y hy
        · have hi : i = φ.length := by
            have := (List.getElem?_eq_some_iff.1 hy).1
            simp at this; omega
          subst hi
          rw [List.getElem?_append_right (Nat.le_refl _)] at hy
          simp at hy
          subst hy
          exact h2
      · intro i p Φ hp hy
        rcases Nat.lt_or_ge i φ.length with hlt | hge
        · rw [List.getElem?_append_left hlt] at hy; exact hs i p Φ hp hy
        · have hi : i = φ.length := by
            have := (List.getElem?_eq_some_iff.1 hy).1
            simp at this; omega
          subst hi
          rw [List.getElem?_append_right (Nat.le_refl _)] at hy
          simp at hy
          subst hy
          rw [ho] at hp
          injection hp with hp
          subst hp
          exact h3 Φ rfl
    have h : (match isIn φ.length F with
      | true => FreshQ T P o (depEnv ops σ (bnds o.after.toList) Em) H fun Φ => lf (φ ++ [some Φ]) fun φ' => vcF T P ops F Em H σ r (φ.length + 1) φ' K
      | false => lf (φ ++ [none]) fun φ' => vcF T P ops F Em H σ r (φ.length + 1) φ' K : Prop) := h
    split at h
    · rename_i hF
      obtain ⟨Φ, h1, h2, h3⟩ := h
      rw [lf_eq] at h3
      exact rec_ _ h3 ⟨(fun hF' => by rw [hF] at hF'; cases hF'), fun _ => ⟨Φ, rfl⟩⟩ (fun Φ' he => by injection he with he; subst he; exact ⟨h1, h2⟩)
    · rename_i hF
      rw [lf_eq] at h
      exact rec_ _ h ⟨fun _ => rfl, (fun hF' => by rw [hF] at hF'; cases hF')⟩ (fun Φ' he => by cases he)

theorem bindF_elim {g : Addr → Option Value} {ρ : Nat → List Row} {res : Nat → SV} : ∀ (φ : List (Option Fresh)) (σ τ : List SV) (rows : List Row) (K : List SV → List Row → Prop) (i0 : Nat), φ.length = σ.length → bindF g φ σ τ rows K →
    (∀ (i : Nat) (Φ : Fresh), φ[i]? = some (some Φ) → Φ (res (i0 + i)) g (ρ (i0 + i))) → (∀ i : Nat, φ[i]? = some none → ρ (i0 + i) = []) →
    ∃ τ' : List SV, K (τ ++ τ') (rows ++ (List.range' i0 φ.length).flatMap ρ) ∧ τ'.length = φ.length ∧ ∀ (i : Nat) (s : SV), τ'[i]? = some s → (φ[i]? = some none → σ[i]? = some s) ∧ (∀ Φ : Fresh, φ[i]? = some (some Φ) → s = res (i0 + i))
  | [], σ, τ, rows, K, i0, _, h, _, _ => ⟨[], by simpa [bindF] using h, rfl, fun i s h => by simp at h⟩
  | x :: φ, [], τ, rows, K, i0, hl, h, _, _ => by simp at hl
  | none :: φ, s :: σ, τ, rows, K, i0, hl, h, h1, h2 => by
    have h : lf (τ ++ [s]) fun τ => bindF g φ σ τ rows K := h
    rw [lf_eq] at h
    obtain ⟨τ', a1, a2, a3⟩ := bindF_elim φ σ _ rows K (i0 + 1) (by simpa using hl) h (fun i Φ hi => by have := h1 (i + 1) Φ (by simpa using hi); rw [show i0 + (i + 1) = i0 + 1 + i by omega] at this; exact this)
      (fun i hi => by have := h2 (i + 1) (by simpa using hi); rw [show i0 + (i + 1) = i0 + 1 + i by omega] at this; exact this)
    have h0 : ρ i0 = [] := h2 0 (by simp)
    refine ⟨s :: τ', ?_, by simp [a2], fun i u hu => ?_⟩
    · simp only [List.append_assoc, List.singleton_append] at a1
      rw [List.length_cons, List.range'_succ, List.flatMap_cons, h0, List.nil_append]
      exact a1
    · cases i with
      | zero => simp at hu; subst hu; exact ⟨fun _ => by simp, fun Φ hΦ => by simp at hΦ⟩
      | succ i =>
        simp at hu
        obtain ⟨b1, b2⟩ := a3 i u hu
        refine ⟨fun h => by simpa using b1 (by simpa using h), fun Φ hΦ => ?_⟩
        rw [show i0 + (i + 1) = i0 + 1 + i by omega]
        exact b2 Φ (by simpa using hΦ)
  | some Φ0 :: φ, s :: σ, τ, rows, K, i0, hl, h, h1, h2 => by
    have h : ∀ s rs, Φ0 s g rs → lf (τ ++ [s]) fun τ => lf (rows ++ rs) fun rows => bindF g φ σ τ rows K := h
    have h := h (res i0) (ρ i0) (h1 0 Φ0 (by simp))
    rw [lf_eq, lf_eq] at h
    obtain ⟨τ', a1, a2, a3⟩ := bindF_elim φ σ _ _ K (i0 + 1) (by simpa using hl) h (fun i Φ hi => by have := h1 (i + 1) Φ (by simpa using hi); rw [show i0 + (i + 1) = i0 + 1 + i by omega] at this; exact this)
      (fun i hi => by have := h2 (i + 1) (by simpa using hi); rw [show i0 + (i + 1) = i0 + 1 + i by omega] at this; exact this)
    refine ⟨res i0 :: τ', ?_, by simp [a2], fun i u hu => ?_⟩
    · simp only [List.append_assoc, List.singleton_append] at a1
      rw [List.length_cons, List.range'_succ, List.flatMap_cons]
      exact a1
    · cases i with
      | zero => simp at hu; subst hu; exact ⟨fun h => by simp at h, fun Φ hΦ => rfl⟩
      | succ i =>
        simp at hu
        obtain ⟨b1, b2⟩ := a3 i u hu
        refine ⟨fun h => by simpa using b1 (by simpa using h), fun Φ hΦ => ?_⟩
        rw [show i0 + (i + 1) = i0 + 1 + i by omega]
        exact b2 Φ (by simpa using hΦ)

/-- The first q operations in any order: those of F make new things, the others only tell values; what is left runs behind them. -/
theorem Sx.parF (hT : TabOk T P) (hm : P.follows .mixedOrders = true) {id n : Nat} {D : List Deferred} {ops : Array Oper} {E : Env} {nb : Nat} {B : List (List SV)} {rs : List Row} {g : Addr → Option Value} {K : Exit → Env → Hp → Prop} (q : Nat) (F : List Nat) (hok : parOkF n q F ops.toList = true)
    (h : vcA T P ops.toList F (eraseE (dsts (ops.toList.take q)) E) ⟨nb, B, rs, g⟩ (ops.toList.take q) 0 [] fun σ => vcF T P ops.toList F (eraseE (dsts (ops.toList.take q)) E) ⟨nb, B, rs, g⟩ σ (ops.toList.take q) 0 [] fun φ =>
      ∀ g', (∀ a v, g a = some v → g' a = some v) → bindF g' φ σ [] rs fun τ rows' => vcOps T P n ops.toList (ops.toList.drop q) (fullE ops.toList τ (eraseE (dsts (ops.toList.take q)) E)) ⟨nb, B, rows', g'⟩ (K .normal)) :
    Sx P n D (.region id ops true) E ⟨nb, B, rs, g⟩ K := by
  unfold parOkF at hok
  split at hok
  case h_2 => cases hok
  rename_i hok1
  obtain ⟨hnd, hedge, hbl, hq, htl, hus, hdr⟩ := parOkT_use hok1
  obtain ⟨σ, hσ, hK, hstepA⟩ := vcA_upto (F := F) hedge q (by simpa using hq) (ops.toList.take q) [] _ (by simp [hq]) (fun i hi => by simp at hi ⊢; rw [List.getElem?_take, if_pos hi]; simp) (fun i o s _ _ hs => by simp at hs) h
  obtain ⟨φ, hφ, hK, hφF, hstepF⟩ := vcF_upto (F := F) q (ops.toList.take q) [] _ (by simp [hq]) (fun i hi => by simp at hi ⊢; rw [List.getElem?_take, if_pos hi]; simp) (fun i x hx => by simp at hx) (fun i o Φ _ hs => by simp at hs) hK
  have hind := fun (i : Nat) (o : Oper) (ho : ops.toList[i]? = some o) (hi : i < q) => indOk_eq hok i o ho hi
  have hφn : ∀ j, j < q → isIn j F = false → φ[j]? = some none := by
    intro j hj hF
    have hx : φ[j]? = some (φ[j]'(by omega)) := List.getElem?_eq_getElem _
    rw [hx, (hφF j _ hx).1 hF]
  have hφs : ∀ (j : Nat) (Φ : Fresh), φ[j]? = some (some Φ) → isIn j F = true := by
    intro j Φ hj
    cases hF : isIn j F with
    | true => rfl
    | false => have := (hφF j _ hj).1 hF; cases this
  have hφf : ∀ (j : Nat), φ[j]? = some none → isIn j F = false := by
    intro j hj
    cases hF : isIn j F with
    | false => rfl
    | true => obtain ⟨Φ, h⟩ := (hφF j _ hj).2 hF; cases h
  refine ⟨fun β a w R => wp_region_any hm ?_⟩
  refine par_anyF hT (H := ⟨nb, B, rs, g⟩) (Em := eraseE (dsts (ops.toList.take q)) E) hnd hedge hbl (fun t s ht => (eraseE_get ht).2) hq hσ hφ htl hus ?_ ?_ ?_ ?_ ?_ (D := D) (β0 := β) (w0 := w) ?_ q ops.size _ a _ ?_ ?_ ?_ ?_
  · intro i o ho hi e he
    exact hφn e.on (by have := (edgesOk_eq hedge i o ho e he).2; omega) ((hind i o ho hi).1 e he)
  · intro i o Φ ho hΦ
    have hi : i < q := by rw [← hφ]; exact (List.getElem?_eq_some_iff.1 hΦ).1
    exact (hind i o ho hi).2 (by rw [Nat.zero_add]; exact hφs i Φ hΦ)
  · intro i Φ hΦ
    have hi : i < q := by rw [← hφ]; exact (List.getElem?_eq_some_iff.1 hΦ).1
    exact (hstepF i _ Φ (List.getElem?_eq_getElem (by simp; omega)) hΦ).1
  · intro i o s ho hn hs
    exact hstepA i o s ho (hφf i hn) hs
  · intro i o Φ ho hΦ
    exact (hstepF i o Φ ho hΦ).2
  · intro fuel listed a' w' I hall hnone hfl
    obtain ⟨β', gc, ρ, R', X', hgc, hE, hρ1, hρ2, hLA, hLF⟩ := I.ex
    have hls : listed.size = ops.size := by simpa using I.lsize
    have hres : ∀ j : Nat, ∃ s : SV, ∀ Φ : Fresh, φ[j]? = some (some Φ) → Φ s gc (ρ j) ∧ ∀ (o : Oper) (d : Nat), ops.toList[j]? = some o → o.dst = some d → ∃ x, a'.tmps[d]? = some x ∧ Den β' s x := by
      intro j
      cases hj : φ[j]? with
      | none => exact ⟨default, fun Φ h => by cases h⟩
      | some x =>
        cases x with
        | none => exact ⟨default, fun Φ h => by cases h⟩
        | some Φ =>
          have hjq : j < q := by rw [← hφ]; exact (List.getElem?_eq_some_iff.1 hj).1
          have hjo : ops.toList[j]? = some (ops.toList[j]'(by simp; omega)) := List.getElem?_eq_getElem _
          obtain ⟨s, h1, h2⟩ := hLF j _ Φ hjo (hall j hjq) hj
          refine ⟨s, fun Φ' h => ?_⟩
          injection h with h
          injection h with h
          subst h
          refine ⟨h1, fun o d ho hod => ?_⟩
          rw [hjo] at ho
          injection ho with ho
          subst ho
          exact h2 d hod
    obtain ⟨res, hres⟩ := Classical.axiomOfChoice hres
    obtain ⟨τ, hτ, hτl, hτs⟩ := bindF_elim (ρ := ρ) (res := res) φ σ [] rs _ 0 (by rw [hφ, hσ]) (hK gc hgc) (fun i Φ hi => by rw [Nat.zero_add]; exact (hres i Φ hi).1) (fun i hi => by rw [Nat.zero_add]; exact hρ2 i hi)
    simp only [List.nil_append] at hτ
    have hrows : (List.range ops.toList.length).flatMap ρ = (List.range' 0 φ.length).flatMap ρ := by
      rw [hφ, ← List.range_eq_range', show ops.toList.length = q + (ops.size - q) by simp; omega, List.range_add, List.flatMap_append]
      have : ((List.range (ops.size - q)).map (q + ·)).flatMap ρ = [] := by
        rw [List.flatMap_eq_nil_iff]
        intro j hj
        obtain ⟨k, hk, rfl⟩ := List.mem_map.1 hj
        refine hρ1 _ ?_
        rw [hnone (q + k) (by omega) (by have := List.mem_range.1 hk; omega)]
        simp
      rw [this, List.append_nil]
    have RA : RepA n D β' (fullE ops.toList τ (eraseE (dsts (ops.toList.take q)) E)) ⟨nb, B, rs ++ (List.range' 0 φ.length).flatMap ρ, gc⟩ a' w' := by
      refine ⟨?_, I.size, I.defers, fun t s ht => ?_⟩
      · rw [← hrows]; exact R'
      rcases fullE_get ht with ⟨j, o, ho, hod, hs⟩ | ht
      · have hjq : j < q := by rw [← hφ, ← hτl]; exact (List.getElem?_eq_some_iff.1 hs).1
        obtain ⟨h1, h2⟩ := hτs j s hs
        cases hF : isIn j F with
        | false =>
          have h3 := hφn j hjq hF
          exact hLA j o s t ho (hall j hjq) hod h3 (h1 h3)
        | true =>
          have hx : φ[j]? = some (φ[j]'(by omega)) := List.getElem?_eq_getElem _
          obtain ⟨Φ, hΦ⟩ := (hφF j _ hx).2 hF
          rw [hΦ] at hx
          have := h2 Φ hx
          rw [Nat.zero_add] at this
          rw [this]
          exact (hres j Φ hx).2 o t ho hod
      · exact hE t s ht
    refine seq_any hT hedge (ops.toList.drop q) q fuel listed (by simp; omega) (fun i => by simp) hdr hls hall hnone (by simp; omega) RA hτ ?_
    intro β2 E2 H2 a2 w2 R2 X2 h2
    refine ⟨β2, E2, H2, R2, Ext.trans ?_ X2, h2⟩
    rw [← hrows]; exact X'
  · simp [List.count_replicate, hq]
  · omega
  · intro j hj hjs; simp [hjs]
  · refine ⟨⟨β, g, fun _ => [], ?_, ?_, fun _ _ h => h, fun t s ht => R.env t s (eraseE_get ht).1, fun _ _ => rfl, fun _ _ => rfl, fun j o s d _ hj => ?_, fun j o Φ _ hj => ?_⟩, R.size, R.defers, by simp, fun j o _ hj => ?_⟩
    · have e : (List.range ops.toList.length).flatMap (fun _ => ([] : List Row)) = [] := by simp
      rw [e]; simpa using R.rep.drew
    · have e : (List.range ops.toList.length).flatMap (fun _ => ([] : List Row)) = [] := by simp
      rw [e]; simpa using Ext.drew β ⟨nb, B, rs, g⟩ w
    · have hlt := (Array.getElem?_eq_some_iff.1 hj).1
      simp at hlt
      simp [hlt] at hj
    · have hlt := (Array.getElem?_eq_some_iff.1 hj).1
      simp at hlt
      simp [hlt] at hj
    · have hlt := (Array.getElem?_eq_some_iff.1 hj).1
      simp at hlt
      simp [hlt] at hj
end
end Go.Sx
