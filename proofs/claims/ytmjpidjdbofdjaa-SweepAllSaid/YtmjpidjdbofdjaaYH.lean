import Derived.Test.YtmjpidjdbofdjaaYG
/- Sy, part H: calls, regions in their order, code. -/
set_option linter.unusedVariables false
set_option linter.unusedSimpArgs false
namespace Go.Sy
open Go

section
variable {P : Program} {β : Gh} {H : Hp} {w : World}
theorem bltS_goes {T : List TI} (hT : TabOk T P) (R : Rep β H w) {b : Builtin} {ts : Array TypeId} {ty : TypeId} {cn : Array Bool} {as : List SV} {xs : List Value} (hd : DenL β as xs) {k : SV → Hp → Prop}
    (h : bltS T P b ts.toList as H k) : Goes P β H w (builtin b ts ty cn xs.toArray) k := by
  unfold bltS at h
  split at h
  · replace h := nd_elim h
    obtain ⟨t, ht, h⟩ := h
    replace h := nd_elim h
    obtain ⟨i, hi, h⟩ := h
    rw [nth_eq] at ht
    have ht' : ts[0]? = some t := by simpa using ht
    obtain ⟨ti⟩ := hT.get hi
    have htd := ti.d
    split at h
    · rename_i s hid
      obtain ⟨y, zs, h1, h2, rfl⟩ := hd
      simp only [Den] at h1
      simp only [DenL] at h2
      subst h1; subst h2
      have hdesc : ti.desc = .string := by
        rw [hid] at htd
        unfold tdOf at htd
        split at htd <;> try (first | (simp at htd; done) | (split at htd <;> simp at htd; done))
        rename_i hdesc
        exact hdesc
      refine .plain R ?_ h
      simp [builtin, Builtin.len_, ht', ti.run_und, hdesc, goInt]
    · rename_i e es eb ea A n c hid
      obtain ⟨y, zs, h1, h2, rfl⟩ := hd
      simp only [Den] at h1
      simp only [DenL] at h2
      subst h1; subst h2
      have hdesc : ∃ e, ti.desc = .slice e := by
        rw [hid] at htd
        unfold tdOf at htd
        split at htd <;> try (first | (simp at htd; done) | (split at htd <;> simp at htd; done))
        rename_i e hdesc
        exact ⟨e, hdesc⟩
      obtain ⟨e, hdesc⟩ := hdesc
      refine .plain R ?_ h
      simp [builtin, Builtin.len_, ht', ti.run_und, hdesc, goInt]
    · rename_i e es eb ea f sz l hid
      obtain ⟨y, zs, h1, h2, rfl⟩ := hd
      obtain ⟨A, n, c, ws, g1, g2, rfl⟩ := h1
      simp only [DenL] at h2
      subst h2
      have hn : n = l.length := by rw [← g2.len, g1.length]
      obtain ⟨_, hdesc, _⟩ := desc_slice ti hid
      refine .plain R ?_ h
      simp [builtin, Builtin.len_, ht', ti.run_und, hdesc, goInt, hn]
    · rename_i e es eb ea ri A n c hid
      obtain ⟨y, zs, h1, h2, rfl⟩ := hd
      simp only [Den] at h1
      simp only [DenL] at h2
      subst h1; subst h2
      obtain ⟨_, hdesc, _⟩ := desc_slice ti hid
      refine .plain R ?_ h
      simp [builtin, Builtin.len_, ht', ti.run_und, hdesc, goInt]
    · rename_i n es ea s hid
      obtain ⟨y, zs, h1, h2, rfl⟩ := hd
      simp only [DenL] at h2
      subst h2
      have hdesc : ∃ e, ti.desc = .array n e := by
        rw [hid] at htd
        unfold tdOf at htd
        split at htd <;> try (first | (simp at htd; done) | (split at htd <;> simp at htd; done))
        rename_i n' e hdesc
        split at htd
        · have hx := htd
          simp at hx
          exact ⟨e, by rw [hdesc, hx.1]⟩
        · cases htd
      obtain ⟨e, hdesc⟩ := hdesc
      refine .plain R ?_ h
      simp only [builtin, Builtin.len_, Sem.run_bind]
      simp [ht', ti.run_und, hdesc, goInt]
    · exact h.elim
  · split at h
    · rename_i kd x r
      obtain ⟨y, zs, h1, h2, rfl⟩ := hd
      simp only [Den] at h1
      subst h1
      obtain ⟨z, hz, hm, _⟩ := foldI_run (P := P) (w := w) .min kd r x zs _ h2 h
      refine .plain R ?_ hz
      have := hm rfl
      simp [builtin, Builtin.min_, this]
    · exact h.elim
  · split at h
    · rename_i kd x r
      obtain ⟨y, zs, h1, h2, rfl⟩ := hd
      simp only [Den] at h1
      subst h1
      obtain ⟨z, hz, _, hm⟩ := foldI_run (P := P) (w := w) .max kd r x zs _ h2 h
      refine .plain R ?_ hz
      have := hm rfl
      simp [builtin, Builtin.max_, this]
    · exact h.elim
  · replace h := nd_elim h
    obtain ⟨t, ht, h⟩ := h
    replace h := nd_elim h
    obtain ⟨i, hi, h⟩ := h
    rw [nth_eq] at ht
    have ht' : ts[0]? = some t := by simpa using ht
    obtain ⟨ti⟩ := hT.get hi
    have htd := ti.d
    have hdesc : ∀ {e es eb ea}, i.d = .slice e es eb ea → ∃ e, ti.desc = .slice e := by
      intro e es eb ea hid
      rw [hid] at htd
      unfold tdOf at htd
      split at htd <;> try (first | (simp at htd; done) | (split at htd <;> simp at htd; done))
      rename_i e hdesc
      exact ⟨e, hdesc⟩
    split at h
    · rename_i e es eb ea A n c hid
      obtain ⟨y, zs, h1, h2, rfl⟩ := hd
      simp only [Den] at h1
      simp only [DenL] at h2
      subst h1; subst h2
      obtain ⟨e, hdesc⟩ := hdesc hid
      refine .plain R ?_ h
      simp [builtin, Builtin.cap_, ht', ti.run_und, hdesc, goInt]
    · rename_i e es eb ea sz l hid
      obtain ⟨y, zs, h1, h2, rfl⟩ := hd
      obtain ⟨A, n, c, ws, g1, g2, rfl⟩ := h1
      simp only [DenL] at h2
      subst h2
      have hn : c = l.length := by rw [g2.full rfl, ← g2.len, g1.length]
      obtain ⟨e, hdesc⟩ := hdesc hid
      refine .plain R ?_ h
      simp [builtin, Builtin.cap_, ht', ti.run_und, hdesc, goInt, hn]
    · rename_i e es eb ea ri A n c hid
      obtain ⟨y, zs, h1, h2, rfl⟩ := hd
      simp only [Den] at h1
      simp only [DenL] at h2
      subst h1; subst h2
      obtain ⟨e, hdesc⟩ := hdesc hid
      refine .plain R ?_ h
      simp [builtin, Builtin.cap_, ht', ti.run_und, hdesc, goInt]
    · exact h.elim
  · split at h
    case h_2 => exact h.elim
    rename_i t1 t2 s x hts
    replace h := nd_elim h
    obtain ⟨⟨e, sz, eb⟩, hi, h⟩ := h
    obtain ⟨I⟩ := appInfo_eq hT hi
    obtain ⟨y, zs, h1, ⟨x', zs2, h2, h3, rfl⟩, rfl⟩ := hd
    simp only [DenL] at h3
    subst h3
    obtain ⟨es, ws, h, g1, g2, g3, g4⟩ := srcS_run R h2 h
    obtain ⟨z, w', s', H', hr, hdz, R', X', hk⟩ := appS_run R I h1 g1 g2 g3 g4 h ty
    refine ⟨z, w', β, s', H', .inl ?_, hdz, R', X', hk⟩
    have hts' : ts = #[t1, t2] := by apply Array.ext'; simpa using hts
    subst hts'
    simp only [builtin, Sem.run_bind, hr, Result.andThen_ok, Sem.run_pure]
  · exact h.elim
end
end Go.Sy

