import Derived.Test.YtmjpidjdbofdjaaGreatVg
/- Contracts: arena.index. -/
set_option linter.unusedVariables false
set_option linter.unusedSimpArgs false
set_option maxRecDepth 100000
namespace Go.Proofs.YtmjpidjdbofdjaaGreat
open Go Go.Sy
def ltI (l : List Ent) (x y : Nat) : Bool := match l[x]?, l[y]? with | some a, some b => entLt a b | _, _ => false
theorem ltI_at {l : List Ent} {x y : Nat} {a b : Ent} (hx : l[x]? = some a) (hy : l[y]? = some b) : ltI l x y = entLt a b := by unfold ltI; rw [hx, hy]
def cmpI (l : List Ent) (x y : Nat) : Int := if ltI l x y then -1 else if ltI l y x then 1 else 0
theorem c_cmp (l : List Ent) (x y : Nat) (hx : x < l.length) (hy : y < l.length) (nb : Nat) (bs : List Bx) (rows : List Row) :
    Tr Tryz.prog n_arena_index_1 [iv x, iv y, .loc 0 0] ⟨nb, .c [ents l] :: bs, rows⟩ fun r H' => r = iv (cmpI l x y) ∧ H' = ⟨nb, .c [ents l] :: bs, rows⟩ := by
  obtain ⟨a, ha⟩ : ∃ a, l[x]? = some a := ⟨_, List.getElem?_eq_getElem hx⟩
  obtain ⟨b, hb⟩ : ∃ a, l[y]? = some a := ⟨_, List.getElem?_eq_getElem hy⟩
  refine Tr.of_body tabOk q_arena_index_1 (by kernel_rfl) ?_
  conv => whnf
  unfold cmpI
  rw [ltI_at ha hb, ltI_at hb ha]
  repeat' (first
    | (refine bltG (by first | omega | (simp only [List.length_map] at *; omega)) ?_; conv => whnf)
    | (refine ndG (by assumption) ?_; conv => whnf)
    | (refine mulG ?_; conv => whnf)
    | (refine And.intro rfl ?_; conv => whnf)
    | (refine dsT (by assumption) ?_; conv => whnf)
    | (refine dsF (by assumption) ?_; conv => whnf)
    | (refine nsT (by assumption) ?_; conv => whnf)
    | (refine nsF (by assumption) ?_; conv => whnf)
    | (refine bsT (by assumption) ?_; conv => whnf)
    | (refine bsF (by assumption) ?_; conv => whnf)
    | (refine dsp ?_ ?_ <;> intro _ <;> conv => whnf)
    | (refine nsp ?_ ?_ <;> intro _ <;> conv => whnf)
    | (refine cnd_true (by assumption) ?_; conv => whnf)
    | (refine cnd_false (by assumption) ?_; conv => whnf)
    | (refine cnd_split ?_ ?_ <;> intro _ <;> conv => whnf)
    | (refine Cd.par tabOk (by kernel_rfl) (by kernel_rfl) ?_; conv => whnf)
    | (refine Fc.use (c_entry_Less a b) ?_ ?_; (focus ((repeat' constructor); done)); conv => whnf)
    | (refine CallQ.of (c_entry_Less a b) ?_ ?_; (focus ((repeat' constructor); done)); conv => whnf)
    | (refine Fc.use (c_entry_Less b a) ?_ ?_; (focus ((repeat' constructor); done)); conv => whnf)
    | (refine CallQ.of (c_entry_Less b a) ?_ ?_; (focus ((repeat' constructor); done)); conv => whnf))
  · refine ⟨?_, rfl⟩; rw [if_pos ‹_›]; rfl
  · refine ⟨?_, rfl⟩; rw [if_neg (by simp [*]), if_pos ‹_›]; rfl
  · refine ⟨?_, rfl⟩; rw [if_neg (by simp [*]), if_neg (by simp [*])]; rfl
def swp (es : List Nat) (j : Nat) : List Nat := (es.set j (es.getD (j - 1) 0)).set (j - 1) (es.getD j 0)
def sink (lt : Nat → Nat → Bool) : List Nat → Nat → List Nat
  | es, 0 => es
  | es, j + 1 => if lt (es.getD (j + 1) 0) (es.getD j 0) then sink lt (swp es (j + 1)) j else es
def iso (lt : Nat → Nat → Bool) (es : List Nat) : Nat → List Nat
  | 0 => es
  | m + 1 => sink lt (iso lt es m) m
def nv (k : Nat) : SV := iv k
def nats (es : List Nat) : List SV := es.map nv
def fillN (n i : Nat) : List Nat := (List.range n).map fun k => if k < i then k else 0
theorem fillN_set {n i : Nat} (h : i < n) : (fillN n i).set i i = fillN n (i + 1) := by
  apply List.ext_getElem?
  intro k
  simp only [fillN, List.getElem?_set, List.getElem?_map, List.length_map, List.length_range, List.getElem?_range]
  by_cases hk : i = k
  · subst hk; simp [h]
  · by_cases hkn : k < n
    · simp [hk, hkn]; grind
    · simp [hk, hkn]
theorem fillN_zero (n : Nat) : nats (fillN n 0) = List.replicate n (SV.v (.int .i64 0)) := by
  apply List.ext_getElem?
  intro k
  simp only [nats, fillN, List.getElem?_map, List.getElem?_range, List.getElem?_replicate]
  by_cases hkn : k < n
  · simp [hkn, nv, iv]
  · simp [hkn]
theorem fillN_full (n : Nat) : fillN n n = List.range n := by
  apply List.ext_getElem?
  intro k
  simp only [fillN, List.getElem?_map, List.getElem?_range]
  by_cases hkn : k < n
  · simp [hkn]
  · simp [hkn]
theorem nats_set (es : List Nat) (i k : Nat) : (nats es).set i (iv k) = nats (es.set i k) := by simp [nats, nv]
def inR (n : Nat) (es : List Nat) : Prop := es.length = n ∧ ∀ x ∈ es, x < n
theorem inR.at {n : Nat} {es : List Nat} (h : inR n es) {j : Nat} (hj : j < n) : ∃ x, es[j]? = some x ∧ x < n :=
  ⟨_, List.getElem?_eq_getElem (by rw [h.1]; exact hj), h.2 _ (List.getElem_mem _)⟩
theorem inR_swp {n : Nat} {es : List Nat} (h : inR n es) {j : Nat} (hj : j < n) : inR n (swp es j) := by
  obtain ⟨x, hx, hxn⟩ := h.at hj
  obtain ⟨y, hy, hyn⟩ := h.at (show j - 1 < n by omega)
  have e1 : es.getD j 0 = x := by simp [List.getD, hx]
  have e2 : es.getD (j - 1) 0 = y := by simp [List.getD, hy]
  refine ⟨by simp [swp, h.1], fun z hz => ?_⟩
  unfold swp at hz
  rw [e1, e2] at hz
  rcases List.mem_or_eq_of_mem_set hz with hz | rfl
  · rcases List.mem_or_eq_of_mem_set hz with hz | rfl
    · exact h.2 z hz
    · exact hyn
  · exact hxn
theorem sink_inR {n : Nat} {lt : Nat → Nat → Bool} : ∀ {es : List Nat} (j : Nat), j < n → inR n es → inR n (sink lt es j)
  | es, 0, _, h => h
  | es, j + 1, hj, h => by
    unfold sink
    split
    · exact sink_inR j (by omega) (inR_swp h hj)
    · exact h
theorem iso_inR (lt : Nat → Nat → Bool) (n : Nat) : ∀ i, i ≤ n → inR n (iso lt (List.range n) i)
  | 0, _ => ⟨by simp [iso], fun x hx => by simpa [iso] using hx⟩
  | i + 1, h => sink_inR i (by omega) (iso_inR lt n i (by omega))
theorem swp_eq {es : List Nat} {j x y : Nat} (hx : es[j + 1]? = some x) (hy : es[j]? = some y) : swp es (j + 1) = (es.set (j + 1) y).set j x := by
  simp [swp, List.getD, hx, hy]
theorem cmp_lt {l : List Ent} {x y : Nat} (h : cmpI l x y < 0) : ltI l x y = true := by
  unfold cmpI at h
  split at h
  · assumption
  · split at h <;> omega
theorem cmp_ge {l : List Ent} {x y : Nat} (h : ¬ cmpI l x y < 0) : ltI l x y = false := by
  unfold cmpI at h
  split at h
  · omega
  · rename_i hf; simpa using hf
theorem sink_lt {lt : Nat → Nat → Bool} {es : List Nat} {j x y : Nat} (h : lt x y = true) (hx : es[j + 1]? = some x) (hy : es[j]? = some y) : sink lt es (j + 1) = sink lt (swp es (j + 1)) j := by
  simp [sink, List.getD, hx, hy, h]
theorem sink_ge {lt : Nat → Nat → Bool} {es : List Nat} {j x y : Nat} (h : lt x y = false) (hx : es[j + 1]? = some x) (hy : es[j]? = some y) : sink lt es (j + 1) = es := by
  simp [sink, List.getD, hx, hy, h]
def idx (l : List Ent) : List Nat := iso (ltI l) (List.range l.length) l.length
theorem c_arena_index (l : List Ent) (hl : l.length ≤ 19) : Fc Tryz.prog n_arena_index [ents l] (.lst false 1 (nats (idx l))) := by
  refine Fc.of_body tabOk q_arena_index (by kernel_rfl) ((blwL_one (blw_ents 0 l))) (by (rw [blw]; exact blwL_map (f := nv) (fun k => rfl) _)) ?_
  conv => whnf
  refine ⟨⟨Nat.le_refl _, ?_, ?_, rfl, rfl⟩, fun g => ?_⟩
  · simp only [List.length_map]; omega
  · simp only [List.length_map]; have : 19 ≤ maxLen := by decide
    omega
  conv => whnf
  refine loopP tabOk (fun i : Nat => i ≤ l.length) (fun i => ⟨[(10, iv i), (9, iv (l.map Ent.sv).length), (3, .own 0 (some ⟨g, 0, none⟩) (l.map Ent.sv).length (l.map Ent.sv).length), (1, .loc 0 0)], []⟩)
    (fun i => ⟨1, [.c [ents l]], [⟨some ⟨g, 0, none⟩, (l.map Ent.sv).length, (l.map Ent.sv).length, t_int, 1, nats (fillN l.length i), false⟩]⟩) (fun i => l.length - i) 0 (Nat.zero_le _) (by rw [fillN_zero, ← List.length_map (f := Ent.sv)]; repeat' constructor) (fun _ => rfl) ?_
  intro i hi
  conv => whnf
  refine dsp ?_ ?_ <;> intro hlt <;> conv => whnf
  · obtain ⟨x, hx⟩ : ∃ x, (fillN l.length i)[i]? = some x := ⟨_, List.getElem?_eq_getElem (by simp only [List.length_map] at hlt; simp only [fillN, List.length_map, List.length_range]; omega)⟩
    simp only [List.length_map] at hlt
    repeat' (first
      | (refine bltG (by first | omega | (simp only [List.length_map] at *; omega)) ?_; conv => whnf)
      | (refine ndG (by assumption) ?_; conv => whnf)
      | (refine mulG ?_; conv => whnf)
      | (refine And.intro rfl ?_; conv => whnf)
      | (refine dsT (by assumption) ?_; conv => whnf)
      | (refine dsF (by assumption) ?_; conv => whnf)
      | (refine nsT (by assumption) ?_; conv => whnf)
      | (refine nsF (by assumption) ?_; conv => whnf)
      | (refine bsT (by assumption) ?_; conv => whnf)
      | (refine bsF (by assumption) ?_; conv => whnf)
      | (refine dsp ?_ ?_ <;> intro _ <;> conv => whnf)
      | (refine nsp ?_ ?_ <;> intro _ <;> conv => whnf)
      | (refine cnd_true (by assumption) ?_; conv => whnf)
      | (refine cnd_false (by assumption) ?_; conv => whnf)
      | (refine cnd_split ?_ ?_ <;> intro _ <;> conv => whnf)
      | (refine Cd.par tabOk (by kernel_rfl) (by kernel_rfl) ?_; conv => whnf))
    refine ⟨i + 1, by omega, ?_, ?_⟩
    · first | omega | (simp only [List.length_map] at *; omega)
    · (repeat' constructor) <;> first | (refine ivW ?_ ?_ ?_ <;> first | omega | (dsimp only; omega)) | exact rowEq (by rw [← fillN_set (show i < l.length by omega)]; exact (nats_set _ _ _).symm)
  · have hie : i = l.length := by simp only [List.length_map] at hlt; omega
    subst hie
    rw [fillN_full]
    repeat' (first
      | (refine bltG (by first | omega | (simp only [List.length_map] at *; omega)) ?_; conv => whnf)
      | (refine ndG (by assumption) ?_; conv => whnf)
      | (refine mulG ?_; conv => whnf)
      | (refine And.intro rfl ?_; conv => whnf)
      | (refine dsT (by assumption) ?_; conv => whnf)
      | (refine dsF (by assumption) ?_; conv => whnf)
      | (refine nsT (by assumption) ?_; conv => whnf)
      | (refine nsF (by assumption) ?_; conv => whnf)
      | (refine bsT (by assumption) ?_; conv => whnf)
      | (refine bsF (by assumption) ?_; conv => whnf)
      | (refine dsp ?_ ?_ <;> intro _ <;> conv => whnf)
      | (refine nsp ?_ ?_ <;> intro _ <;> conv => whnf)
      | (refine cnd_true (by assumption) ?_; conv => whnf)
      | (refine cnd_false (by assumption) ?_; conv => whnf)
      | (refine cnd_split ?_ ?_ <;> intro _ <;> conv => whnf)
      | (refine Cd.par tabOk (by kernel_rfl) (by kernel_rfl) ?_; conv => whnf)
      | (refine Tr.of_body tabOk q_slices_SortStableFunc_Lint_int (by kernel_rfl) ?_; conv => whnf)
      | (refine Tr.of_body tabOk q_slices_stableCmpFunc_int (by kernel_rfl) ?_; conv => whnf))
    refine Cd.unroll tabOk 1 ?_
    conv => whnf
    refine dsF (by simp only [List.length_map]; omega) ?_
    conv => whnf
    refine Tr.of_body tabOk q_slices_insertionSortCmpFunc_int (by kernel_rfl) ?_
    conv => whnf
    have hN : (l.map Ent.sv).length = l.length := List.length_map ..
    refine loopP tabOk (fun i : Nat => 1 ≤ i ∧ (i ≤ l.length ∨ i = 1)) (fun i => ⟨[(8, iv i), (0, .own 0 (some ⟨g, 0, none⟩) (l.map Ent.sv).length (l.map Ent.sv).length), (1, iv 0), (2, iv (l.map Ent.sv).length), (3, .clo (.func n_arena_index_1) [] [.loc 0 0])], []⟩)
      (fun i => ⟨1, [.c [ents l]], [⟨some ⟨g, 0, none⟩, (l.map Ent.sv).length, (l.map Ent.sv).length, t_int, 1, nats (iso (ltI l) (List.range l.length) i), false⟩]⟩) (fun i => l.length - i) 1 (by omega) (by (repeat' constructor) <;> first | (refine ivW ?_ ?_ ?_ <;> omega)) (fun _ => rfl) ?_
    rintro i ⟨hi1, hi2⟩
    conv => whnf
    refine dsp ?_ ?_ <;> intro hlt <;> conv => whnf
    · rw [hN] at hlt
      have hlt' : i < l.length := by omega
      refine loopP2 tabOk (fun (es : List Nat) (j : Nat) => j ≤ i ∧ inR l.length es ∧ sink (ltI l) es j = sink (ltI l) (iso (ltI l) (List.range l.length) i) i)
        (fun es j => ⟨[(9, iv j), (8, iv i), (0, .own 0 (some ⟨g, 0, none⟩) (l.map Ent.sv).length (l.map Ent.sv).length), (1, iv 0), (2, iv (l.map Ent.sv).length), (3, .clo (.func n_arena_index_1) [] [.loc 0 0])], []⟩)
        (fun es j => ⟨1, [.c [ents l]], [⟨some ⟨g, 0, none⟩, (l.map Ent.sv).length, (l.map Ent.sv).length, t_int, 1, nats es, false⟩]⟩) (fun es j => j) (iso (ltI l) (List.range l.length) i) i ⟨Nat.le_refl _, iso_inR _ _ _ (by omega), rfl⟩ (by (repeat' constructor) <;> first | (refine ivW ?_ ?_ ?_ <;> omega)) (fun _ _ => rfl) ?_
      rintro es j ⟨hj, hes, hs⟩
      cases j with
      | zero =>
        conv => whnf
        repeat' (first
          | (refine bltG (by first | omega | (simp only [List.length_map] at *; omega)) ?_; conv => whnf)
          | (refine ndG (by assumption) ?_; conv => whnf)
          | (refine mulG ?_; conv => whnf)
          | (refine And.intro rfl ?_; conv => whnf)
          | (refine dsT (by assumption) ?_; conv => whnf)
          | (refine dsF (by assumption) ?_; conv => whnf)
          | (refine nsT (by assumption) ?_; conv => whnf)
          | (refine nsF (by assumption) ?_; conv => whnf)
          | (refine bsT (by assumption) ?_; conv => whnf)
          | (refine bsF (by assumption) ?_; conv => whnf)
          | (refine dsp ?_ ?_ <;> intro _ <;> conv => whnf)
          | (refine nsp ?_ ?_ <;> intro _ <;> conv => whnf)
          | (refine cnd_true (by assumption) ?_; conv => whnf)
          | (refine cnd_false (by assumption) ?_; conv => whnf)
          | (refine cnd_split ?_ ?_ <;> intro _ <;> conv => whnf)
          | (refine Cd.par tabOk (by kernel_rfl) (by kernel_rfl) ?_; conv => whnf))
        refine ⟨i + 1, ⟨by omega, .inl (by omega)⟩, ?_, ?_⟩
        · first | omega | (simp only [List.length_map] at *; omega)
        · (repeat' constructor) <;> first | (refine ivW ?_ ?_ ?_ <;> first | omega | (dsimp only; omega)) | exact rowEq (by show nats (sink (ltI l) (iso (ltI l) (List.range l.length) i) i) = nats es; rw [← hs]; rfl)
      | succ j =>
        have hw : IntKind.wrap .i64 (((j + 1 : Nat) : Int) - 1) = (j : Nat) := by rw [wrap_i64] <;> omega
        obtain ⟨x, hx, hxl⟩ := hes.at (show j + 1 < l.length by omega)
        obtain ⟨y, hy, hyl⟩ := hes.at (show j < l.length by omega)
        conv => whnf
        repeat' (first
          | (refine bltG (by first | omega | (simp only [List.length_map] at *; omega)) ?_; conv => whnf)
          | (refine ndG (by assumption) ?_; conv => whnf)
          | (refine mulG ?_; conv => whnf)
          | (refine And.intro rfl ?_; conv => whnf)
          | (refine dsT (by assumption) ?_; conv => whnf)
          | (refine dsF (by assumption) ?_; conv => whnf)
          | (refine nsT (by assumption) ?_; conv => whnf)
          | (refine nsF (by assumption) ?_; conv => whnf)
          | (refine bsT (by assumption) ?_; conv => whnf)
          | (refine bsF (by assumption) ?_; conv => whnf)
          | (refine dsp ?_ ?_ <;> intro _ <;> conv => whnf)
          | (refine nsp ?_ ?_ <;> intro _ <;> conv => whnf)
          | (refine cnd_true (by assumption) ?_; conv => whnf)
          | (refine cnd_false (by assumption) ?_; conv => whnf)
          | (refine cnd_split ?_ ?_ <;> intro _ <;> conv => whnf)
          | (refine Cd.par tabOk (by kernel_rfl) (by kernel_rfl) ?_; conv => whnf)
          | (rw [hw]; conv => whnf)
          | (refine CallQ.tr (c_cmp l x y hxl hyl 1 [] _) ?_; conv => whnf))
        · refine ndX (l := (nats es).set (j + 1) (iv y)) (i := j) (x := nv y) (by simp [nats, hy]) ?_
          conv => whnf
          repeat' (first
            | (refine bltG (by first | omega | (simp only [List.length_map] at *; omega)) ?_; conv => whnf)
            | (refine ndG (by assumption) ?_; conv => whnf)
            | (refine mulG ?_; conv => whnf)
            | (refine And.intro rfl ?_; conv => whnf)
            | (refine dsT (by assumption) ?_; conv => whnf)
            | (refine dsF (by assumption) ?_; conv => whnf)
            | (refine nsT (by assumption) ?_; conv => whnf)
            | (refine nsF (by assumption) ?_; conv => whnf)
            | (refine bsT (by assumption) ?_; conv => whnf)
            | (refine bsF (by assumption) ?_; conv => whnf)
            | (refine dsp ?_ ?_ <;> intro _ <;> conv => whnf)
            | (refine nsp ?_ ?_ <;> intro _ <;> conv => whnf)
            | (refine cnd_true (by assumption) ?_; conv => whnf)
            | (refine cnd_false (by assumption) ?_; conv => whnf)
            | (refine cnd_split ?_ ?_ <;> intro _ <;> conv => whnf)
            | (refine Cd.par tabOk (by kernel_rfl) (by kernel_rfl) ?_; conv => whnf)
            | rfl
            | exact True.intro
            | (refine And.intro ?_ ?_ <;> conv => whnf)
            | (rw [hw]; conv => whnf))
          refine ⟨swp es (j + 1), j, ⟨by omega, inR_swp hes (by omega), by rw [← hs]; exact (sink_lt (cmp_lt ‹_›) hx hy).symm⟩, ?_, ?_⟩
          · first | omega | (simp only [List.length_map] at *; omega)
          · (repeat' constructor) <;> first | (refine ivW ?_ ?_ ?_ <;> first | omega | (dsimp only; omega)) | exact rowEq (by rw [swp_eq hx hy]; show nats _ = ((nats es).set (j + 1) (iv y)).set j (iv x); rw [nats_set, nats_set])
        · refine ⟨i + 1, ⟨by omega, .inl (by omega)⟩, ?_, ?_⟩
          · first | omega | (simp only [List.length_map] at *; omega)
          · (repeat' constructor) <;> first | (refine ivW ?_ ?_ ?_ <;> first | omega | (dsimp only; omega)) | exact rowEq (by show nats (sink (ltI l) (iso (ltI l) (List.range l.length) i) i) = nats es; rw [← hs, sink_ge (cmp_ge ‹_›) hx hy])
        · omega
    · refine Cd.unroll tabOk 1 ?_
      conv => whnf
      refine dsF (by rw [hN]; omega) ?_
      conv => whnf
      have he : iso (ltI l) (List.range l.length) i = idx l := by
        rw [hN] at hlt
        by_cases h : i = l.length
        · rw [h]; rfl
        · have h0 : l.length = 0 := by omega
          have h1 : i = 1 := by omega
          subst h1
          unfold idx
          rw [h0]; rfl
      rw [he]
      repeat' constructor
theorem nats_ints (es : List Nat) : SV.lst false 1 (nats es) = ints (es.map fun k : Nat => (k : Int)) := by
  unfold ints nats; rw [List.map_map]; rfl
end Go.Proofs.YtmjpidjdbofdjaaGreat

