import Derived.Test.YtmjpidjdbofdjaaYJ
/- Sy, part K: states that tell less; loops; functions; contracts. -/
set_option linter.unusedVariables false
set_option linter.unusedSimpArgs false
namespace Go.Sy
open Go

/-! ### What speaks of the first boxes alone -/
mutual
def blw (m : Nat) : SV → Bool
  | .v _ => true
  | .loc i _ => Nat.blt i m
  | .clo _ a c => match blwL m a with | true => blwL m c | false => false
  | .agg l => blwL m l
  | .tup l => blwL m l
  | .ifc _ x => blw m x
  | .lst _ _ es => blwL m es
  | .ro cs _ => blwL m cs
  | .own _ _ _ _ => true
  | .optr _ _ _ => true
  | .yld i => Nat.blt i m
  | .mref i => Nat.blt i m
def blwL (m : Nat) : List SV → Bool
  | [] => true
  | x :: r => match blw m x with | true => blwL m r | false => false
end
/-- Blocks below m are told alike; the cells are the same. -/
structure Cut (m : Nat) (β β' : Gh) : Prop where
  b : ∀ i, i < m → β'.b[i]? = β.b[i]?
  g : ∀ a v, β.g a = some v → β'.g a = some v
mutual
theorem Den.cut {β β' : Gh} {m : Nat} (h : Cut m β β') : ∀ (s : SV) (y : Value), blw m s = true → Den β s y → Den β' s y
  | .v x, y, _, hd => hd
  | .loc i o, y, hb, ⟨b, h1, h2⟩ => ⟨b, by rw [h.b i (by simp [blw] at hb; exact hb)]; exact h1, h2⟩
  | .clo f a c, y, hb, ⟨xs, ys, h1, h2, h3⟩ => by
    simp only [blw] at hb
    split at hb
    · rename_i ha; exact ⟨xs, ys, DenL.cut h a xs ha h1, DenL.cut h c ys hb h2, h3⟩
    · cases hb
  | .agg l, y, hb, ⟨xs, h1, h2⟩ => ⟨xs, DenL.cut h l xs (by simpa only [blw] using hb) h1, h2⟩
  | .tup l, y, hb, ⟨xs, h1, h2⟩ => ⟨xs, DenL.cut h l xs (by simpa only [blw] using hb) h1, h2⟩
  | .ifc t x, y, hb, ⟨z, h1, h2⟩ => ⟨z, Den.cut h x z (by simpa only [blw] using hb) h1, h2⟩
  | .lst f sz es, y, hb, ⟨A, n, c, ws, h1, h2, h3⟩ => ⟨A, n, c, ws, DenL.cut h es ws (by simpa only [blw] using hb) h1, h2.mono h.g, h3⟩
  | .ro cs o, y, hb, ⟨a, ws, h1, h2, h3⟩ => ⟨a, ws, DenL.cut h cs ws (by simpa only [blw] using hb) h1, fun j u hu => h.g _ _ (h2 j u hu), h3⟩
  | .own _ _ _ _, y, _, hd => hd
  | .optr _ _ _, y, _, hd => hd
  | .yld i, y, hb, ⟨b, h1, h2⟩ => ⟨b, by rw [h.b i (by simp [blw] at hb; exact hb)]; exact h1, h2⟩
  | .mref i, y, hb, ⟨b, h1, h2⟩ => ⟨b, by rw [h.b i (by simp [blw] at hb; exact hb)]; exact h1, h2⟩
theorem DenL.cut {β β' : Gh} {m : Nat} (h : Cut m β β') : ∀ (l : List SV) (ys : List Value), blwL m l = true → DenL β l ys → DenL β' l ys
  | [], ys, _, hd => hd
  | x :: r, ys, hb, ⟨y, zs, h1, h2, h3⟩ => by
    simp only [blwL] at hb
    split at hb
    · rename_i hx; exact ⟨y, zs, Den.cut h x y hx h1, DenL.cut h r zs hb h2, h3⟩
    · cases hb
end
def blwE (m : Nat) : List (Nat × SV) → Bool
  | [] => true
  | (_, s) :: r => match blw m s with | true => blwE m r | false => false
def blwM (m : Nat) : List (Value × SV) → Bool
  | [] => true
  | (_, s) :: r => match blw m s with | true => blwM m r | false => false
def blwX (m : Nat) : Bx → Bool
  | .c cs => blwL m cs
  | .lp L => blwE m L.E
  | .df => true
  | .mp kvs => blwM m kvs
  | .gone => true
def blwB (m : Nat) : List Bx → Bool
  | [] => true
  | x :: r => match blwX m x with | true => blwB m r | false => false
def blwR (m : Nat) : List Row → Bool
  | [] => true
  | x :: r => match blwL m x.es with | true => blwR m r | false => false
theorem blwE_get {m : Nat} : ∀ {E : List (Nat × SV)} {t : Nat} {s : SV}, blwE m E = true → get E t = some s → blw m s = true
  | [], _, _, _, h => by simp [get] at h
  | (u, s') :: r, t, s, hb, h => by
    simp only [blwE] at hb
    split at hb
    · rename_i hs
      simp only [get] at h
      split at h
      · injection h with h; subst h; exact hs
      · exact blwE_get hb h
    · cases hb
theorem blwB_get {m : Nat} : ∀ {B : List Bx} {i : Nat} {x : Bx}, blwB m B = true → B[i]? = some x → blwX m x = true
  | [], _, _, _, h => by simp at h
  | y :: r, i, x, hb, h => by
    simp only [blwB] at hb
    split at hb
    · rename_i hs
      cases i with
      | zero => simp at h; subst h; exact hs
      | succ i => simp at h; exact blwB_get hb h
    · cases hb
theorem blwR_get {m : Nat} : ∀ {B : List Row} {x : Row}, blwR m B = true → x ∈ B → blwL m x.es = true
  | [], _, _, h => by simp at h
  | y :: r, x, hb, h => by
    simp only [blwR] at hb
    split at hb
    · rename_i hs
      rcases List.mem_cons.1 h with rfl | h
      · exact hs
      · exact blwR_get hb h
    · cases hb
theorem DenM.cut {β β' : Gh} {m : Nat} (h : Cut m β β') : ∀ {l : List (Value × SV)} {es : List MapEntry}, blwM m l = true → DenM β l es → DenM β' l es
  | [], _, _, hd => hd
  | (k, s) :: r, _, hb, ⟨e, zs, h1, h2, h3, h4⟩ => by
    simp only [blwM] at hb
    split at hb
    · rename_i hs; exact ⟨e, zs, h1, Den.cut h _ _ hs h2, DenM.cut h hb h3, h4⟩
    · cases hb
theorem EnvOk.cut {β β' : Gh} {m : Nat} (h : Cut m β β') {E : List (Nat × SV)} {tmps : Array Value} (hb : blwE m E = true) (k : EnvOk β E tmps) : EnvOk β' E tmps := fun t s ht =>
  let ⟨x, h1, h2⟩ := k t s ht; ⟨x, h1, Den.cut h _ _ (blwE_get hb ht) h2⟩
theorem BxOk.cut {β β' : Gh} {m : Nat} (h : Cut m β β') {w : World} {b : Nat} {x : Bx} (hb : blwX m x = true) (k : BxOk β w b x) : BxOk β' w b x := by
  cases x with
  | c cs => obtain ⟨xs, t, h1, h2⟩ := k; exact ⟨xs, t, DenL.cut h _ _ hb h1, h2⟩
  | lp L => obtain ⟨r, h1, h2, h3, h4, h5, h6, h7, h8⟩ := k; exact ⟨r, h1, h2, h3, h4, h5, h6, h7, h8.cut h hb⟩
  | df => exact k
  | mp kvs => obtain ⟨es, ck, h1, h2⟩ := k; exact ⟨es, ck, h1, h2.cut h hb⟩
  | gone => exact k
theorem RowOk.cut {β β' : Gh} {m : Nat} (h : Cut m β β') {w : World} {r : Row} (hb : blwL m r.es = true) (k : RowOk β w r) : RowOk β' w r := by
  obtain ⟨ws, h1, h2, h3, h4⟩ := k
  refine ⟨ws, DenL.cut h _ _ hb h1, h2, h3, ?_⟩
  split at h4
  · exact h4.mono h.g
  · exact h4
theorem DenD.cut {β β' : Gh} {m : Nat} (h : Cut m β β') {s : SV} {d : Deferred} (hb : blw m s = true) (k : DenD β s d) : DenD β' s d := by
  cases s <;> simp only [DenD] at k
  obtain ⟨xs, ys, h1, h2, h3⟩ := k
  simp only [blw] at hb
  split at hb
  · rename_i ha; exact ⟨xs, ys, DenL.cut h _ _ ha h1, DenL.cut h _ _ hb h2, h3⟩
  · cases hb
theorem DefOk.cut {b0 : Nat} {β β' : Gh} {m : Nat} (h : Cut m β β') {O O' : List Nat} {w : World} (hO : ∀ b, b ∉ O → b ∉ O') : ∀ {r : List Deferred} {ds : List SV}, blwL m ds = true → DefOk b0 β O w ds r → DefOk b0 β' O' w ds r
  | [], _, _, k => k
  | d :: r, ds, hb, k => by
    rcases k with ⟨mm, h1, h0, h2, h3, h4, h5⟩ | ⟨s, ds', h1, h2, h3⟩
    · exact .inl ⟨mm, h1, h0, hO _ h2, h3, h4, DefOk.cut h hO hb h5⟩
    · subst h1
      simp only [blwL] at hb
      split at hb
      · rename_i hs; exact .inr ⟨s, ds', rfl, h2.cut h hs, DefOk.cut h hO hb h3⟩
      · cases hb

/-! ### A value told in another way -/
def impB : Bool → Bool → Bool
  | false, _ => true
  | true, f => f
mutual
def leP : SV → SV → Prop
  | .v (.slice none 0 0), t => match t with
    | .lst _ _ es => es = []
    | .own _ A n c => A = none ∧ n = 0 ∧ c = 0
    | t => SV.v (.slice none 0 0) = t
  | .lst f sz es, t => match t with
    | .lst f' sz' es' => impB f' f = true ∧ sz = sz' ∧ es = es'
    | t => SV.lst f sz es = t
  | .agg l, t => match t with
    | .agg l' => lePL l l'
    | t => SV.agg l = t
  | .tup l, t => match t with
    | .tup l' => lePL l l'
    | t => SV.tup l = t
  | s, t => s = t
def lePL : List SV → List SV → Prop
  | [], t => t = []
  | s :: r, t => match t with
    | [] => False
    | s' :: r' => leP s s' ∧ lePL r r'
end
theorem slOk_nil (g : Addr → Option Value) (full : Bool) (sz : Nat) : SlOk g full sz none 0 0 [] :=
  ⟨rfl, Nat.le_refl _, Nat.zero_le _, fun _ => ⟨rfl, rfl⟩, fun _ => rfl, by simp, by simp [cellsL], fun a h => by cases h⟩
mutual
theorem leP_den {β : Gh} : ∀ (s t : SV) (y : Value), leP s t → Den β s y → Den β t y
  | s, t, y, h, hd => by
    cases s with
    | v x =>
      unfold leP at h
      split at h
      · rename_i heq
        injection heq with heq
        subst heq
        simp only [Den] at hd
        subst hd
        split at h
        · subst h; exact ⟨none, 0, 0, [], rfl, slOk_nil _ _ _, rfl⟩
        · obtain ⟨rfl, rfl, rfl⟩ := h; rfl
        · subst h; rfl
      all_goals first
        | (rename_i heq; cases heq)
        | (subst h; exact hd)
    | lst f sz es =>
      simp only [leP] at h
      split at h
      · obtain ⟨h1, rfl, rfl⟩ := h
        obtain ⟨A, n, c, ws, g1, g2, g3⟩ := hd
        rename_i f'
        exact ⟨A, n, c, ws, g1, ⟨g2.len, g2.le, g2.mx, g2.nil, fun hf => g2.full (by subst hf; simpa [impB] using h1), g2.sz, g2.one, g2.mem⟩, g3⟩
      · subst h; exact hd
    | agg l =>
      simp only [leP] at h
      split at h
      · obtain ⟨xs, h1, h2⟩ := hd
        exact ⟨xs, lePL_den l _ xs h h1, h2⟩
      · subst h; exact hd
    | tup l =>
      simp only [leP] at h
      split at h
      · obtain ⟨xs, h1, h2⟩ := hd
        exact ⟨xs, lePL_den l _ xs h h1, h2⟩
      · subst h; exact hd
    | _ => simp only [leP] at h; subst h; exact hd
theorem lePL_den {β : Gh} : ∀ (l m : List SV) (ys : List Value), lePL l m → DenL β l ys → DenL β m ys
  | [], m, ys, h, hd => by simp only [lePL] at h; subst h; exact hd
  | s :: r, m, ys, h, hd => by
    simp only [lePL] at h
    split at h
    · exact h.elim
    · obtain ⟨y, zs, h1, h2, h3⟩ := hd
      exact ⟨y, zs, leP_den s _ y h.1 h1, lePL_den r _ zs h.2 h2, h3⟩
end
theorem lePL_refl : ∀ l : List SV, (∀ s ∈ l, leP s s) → lePL l l
  | [], _ => rfl
  | s :: r, h => ⟨h s (by simp), lePL_refl r fun x hx => h x (List.mem_cons_of_mem _ hx)⟩

/-! ### A state that tells less -/
def subE : List (Nat × SV) → List (Nat × SV) → Prop
  | [], _ => True
  | (t, s) :: r, E' => match get E' t with
    | some s' => leP s' s ∧ subE r E'
    | none => False
theorem subE_ok {β : Gh} {tmps : Array Value} : ∀ {E E' : List (Nat × SV)}, subE E E' → EnvOk β E' tmps → EnvOk β E tmps
  | [], _, _, _, _, _, h => by simp [get] at h
  | (u, s') :: r, E', hs, k, t, s, h => by
    simp only [subE] at hs
    split at hs
    case h_2 => exact hs.elim
    rename_i s2 hs2
    simp only [get] at h
    split at h
    · rename_i hb
      have hb := Nat.eq_of_beq_eq_true hb
      subst hb
      injection h with h; subst h
      obtain ⟨x, hx, hd⟩ := k _ _ hs2
      exact ⟨x, hx, leP_den _ _ _ hs.1 hd⟩
    · exact subE_ok hs.2 k t s h
def leX : Bx → Bx → Prop
  | .c l, y => match y with | .c l' => lePL l l' | _ => False
  | x, y => x = y
def subB : List Bx → List Bx → Prop
  | [], _ => True
  | x :: r, B => match B with
    | [] => False
    | y :: r' => leX y x ∧ subB r r'
theorem subB_get : ∀ {B B' : List Bx}, subB B B' → ∀ {i : Nat} {x : Bx}, B[i]? = some x → ∃ y, B'[i]? = some y ∧ leX y x
  | [], _, _, i, x, h => by simp at h
  | a :: r, B', hs, i, x, h => by
    simp only [subB] at hs
    split at hs
    case h_1 => exact hs.elim
    rename_i y r'
    cases i with
    | zero => simp at h; subst h; exact ⟨y, rfl, hs.1⟩
    | succ i => simp at h; obtain ⟨z, h1, h2⟩ := subB_get hs.2 h; exact ⟨z, by simpa using h1, h2⟩
theorem leX_ok {β : Gh} {w : World} {b : Nat} {x y : Bx} (h : leX y x) (k : BxOk β w b y) : BxOk β w b x := by
  cases y <;> simp only [leX] at h
  · split at h
    · obtain ⟨xs, t, h1, h2⟩ := k
      exact ⟨xs, t, lePL_den _ _ _ h h1, h2⟩
    · exact h.elim
  all_goals (subst h; exact k)
/-- The first rows, others forgotten. -/
def preR : List Row → List Row → Prop
  | [], _ => True
  | a :: r, B => match B with
    | [] => False
    | b :: r' => a = b ∧ preR r r'
theorem preR_eq : ∀ {A B : List Row}, preR A B → A <+: B
  | [], _, _ => List.nil_prefix
  | a :: r, B, h => by
    simp only [preR] at h
    split at h
    · exact h.elim
    · obtain ⟨rfl, h⟩ := h
      exact (List.prefix_cons_inj a).2 (preR_eq h)
def lenB : List Bx → Nat
  | [] => 0
  | _ :: r => lenB r + 1
theorem lenB_eq : ∀ l : List Bx, lenB l = l.length
  | [] => rfl
  | _ :: r => by rw [lenB, lenB_eq r]; rfl
structure Back (E : Env) (J : Hp) (E' : Env) (H' : Hp) : Prop where
  env : subE E.ts E'.ts
  ds : E.ds = E'.ds
  rows : preR J.rows H'.rows
  boxes : subB J.boxes H'.boxes
  nb : J.nb = lenB J.boxes
  cut : (J.nb = H'.nb) ∨ (blwE J.nb E.ts = true ∧ blwL J.nb E.ds = true ∧ blwB J.nb J.boxes = true ∧ blwR J.nb J.rows = true)
theorem subB_len : ∀ {B B' : List Bx}, subB B B' → B.length ≤ B'.length
  | [], _, _ => Nat.zero_le _
  | a :: r, B', h => by
    simp only [subB] at h
    split at h
    · exact h.elim
    · simpa using subB_len h.2
/-- Boxes behind the first m are forgotten. -/
def Gh.cut (β : Gh) (m : Nat) : Gh := ⟨β.b.take m, β.g⟩
theorem Gh.cut_cut (β : Gh) (m : Nat) : Cut m β (β.cut m) := ⟨fun i hi => by simp only [Gh.cut]; rw [List.getElem?_take, if_pos hi], fun _ _ h => h⟩
theorem RepA.back {n b0 : Nat} {β : Gh} {E' : Env} {H' : Hp} {a : Act} {w : World} (R : RepA n b0 β E' H' a w) {E : Env} {J : Hp} (B : Back E J E' H')
    {β0 : Gh} {H0 : Hp} {w0 : World} (X : Ext β0 H0 w0 β H' w) (hnb : β0.b.length ≤ J.nb) :
    RepA n b0 (β.cut J.nb) E J a w ∧ Ext β0 H0 w0 (β.cut J.nb) J w := by
  have hjl : J.nb = J.boxes.length := by rw [B.nb, lenB_eq]
  have hle : J.nb ≤ H'.nb := by rw [hjl, R.rep.nb]; exact subB_len B.boxes
  have hpr := preR_eq B.rows
  have hown : ∀ b ∈ owned (β.cut J.nb) J, b ∈ owned β H' := by
    intro b hb
    simp only [owned, Gh.cut, List.mem_append] at hb ⊢
    rcases hb with hb | hb
    · exact .inl (List.mem_of_mem_take hb)
    · obtain ⟨r, hr, hrb⟩ := List.mem_filterMap.1 hb
      exact .inr (List.mem_filterMap.2 ⟨r, hpr.subset hr, hrb⟩)
  have hnd : (owned (β.cut J.nb) J).Nodup := by
    have := R.rep.nd
    simp only [owned] at this ⊢
    exact this.sublist ((List.take_sublist _ _).append (hpr.sublist.filterMap _))
  have hpre : Gle β0 (β.cut J.nb) := ⟨by simp only [Gh.cut]; rw [List.prefix_take_iff]; exact ⟨X.pre.1, hnb⟩, X.pre.2⟩
  have X' : Ext β0 H0 w0 (β.cut J.nb) J w := ⟨hpre, X.fr, fun b hb => X.own b (hown b hb), X.gn⟩
  have hgg : ∀ a v, (β.cut J.nb).g a = some v → w.cell? a = some v ∧ a.block ∉ owned (β.cut J.nb) J := fun a v h => ⟨(R.rep.g a v h).1, fun hm => (R.rep.g a v h).2 (hown _ hm)⟩
  have hlen : (β.cut J.nb).b.length = J.boxes.length := by
    simp only [Gh.cut, List.length_take]
    rw [R.rep.len, ← R.rep.nb]; omega
  have hget : ∀ (i b : Nat), (β.cut J.nb).b[i]? = some b → β.b[i]? = some b := by
    intro i b h
    simp only [Gh.cut, List.getElem?_take] at h
    split at h
    · exact h
    · cases h
  have hbox : ∀ (i : Nat) (x : Bx) (b : Nat), J.boxes[i]? = some x → (β.cut J.nb).b[i]? = some b → BxOk β w b x := by
    intro i x b hi hb
    obtain ⟨y, hy, hl⟩ := subB_get B.boxes hi
    exact leX_ok hl (R.rep.box i y b hy (hget i b hb))
  have hrow : ∀ r ∈ J.rows, RowOk β w r := fun r hr => R.rep.row r (hpr.subset hr)
  have henv := subE_ok B.env R.env
  have hO : ∀ b, b ∉ owned β H' → b ∉ owned (β.cut J.nb) J := fun b hb hm => hb (hown b hm)
  rcases B.cut with h1 | ⟨h1, h2, h3, h4⟩
  · have hβ : β.cut J.nb = β := by
      obtain ⟨bb, g⟩ := β
      simp only [Gh.cut]
      rw [List.take_of_length_le]
      have := R.rep.len
      have := R.rep.nb
      simp only at *
      omega
    rw [hβ] at hgg hnd X' hlen hbox hO ⊢
    exact ⟨⟨⟨hlen, hjl, hbox, hrow, hnd, hgg⟩, R.size, by rw [B.ds]; exact R.defs.mono (Gle.refl _) (Nat.le_refl _) (fun b _ hb => ⟨hO b hb, rfl⟩), henv⟩, X'⟩
  · have hc := Gh.cut_cut β J.nb
    exact ⟨⟨⟨hlen, hjl, fun i x b hi hb => BxOk.cut hc (blwB_get h3 hi) (hbox i x b hi hb), fun r hr => RowOk.cut hc (blwR_get h4 hr) (hrow r hr), hnd, hgg⟩, R.size, by rw [B.ds]; exact R.defs.cut hc hO (by rw [← B.ds]; exact h2), EnvOk.cut hc h1 henv⟩, X'⟩
end Go.Sy

