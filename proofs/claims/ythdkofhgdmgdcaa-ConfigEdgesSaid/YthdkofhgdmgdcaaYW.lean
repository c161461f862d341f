import Derived.Test.YthdkofhgdmgdcaaYU
/- Sy, part W: rows are handed over within a function: from then on they are values that nobody writes. -/
set_option linter.unusedVariables false
set_option linter.unusedSimpArgs false
namespace Go.Sy
open Go
section
variable {P : Program} {β : Gh} {H : Hp} {w : World}
def frz (r : Row) : Row := match r with | ⟨A, n, c, e, sz, es, _⟩ => ⟨A, n, c, e, sz, es, true⟩
def frzL : List Row → List Row
  | [] => []
  | r :: l => frz r :: frzL l
theorem frzL_eq : ∀ l : List Row, frzL l = l.map frz
  | [] => rfl
  | r :: l => by rw [frzL, frzL_eq l]; rfl
theorem frz_blk (r : Row) : (frz r).blk = none := by cases r; rfl
theorem fm_frz : ∀ l : List Row, (l.map frz).filterMap Row.blk = []
  | [] => rfl
  | r :: l => by simp [frz_blk, fm_frz l]
theorem Rep.frz (R : Rep β H w) : Rep ⟨β.b, pubG β H w⟩ ⟨H.nb, H.boxes, frzL H.rows⟩ w ∧ Ext β H w ⟨β.b, pubG β H w⟩ ⟨H.nb, H.boxes, frzL H.rows⟩ w := by
  have hup : Gle β ⟨β.b, pubG β H w⟩ := ⟨List.prefix_refl _, pubG_old R⟩
  have hown : owned ⟨β.b, pubG β H w⟩ ⟨H.nb, H.boxes, frzL H.rows⟩ = β.b := by unfold owned; simp only [frzL_eq]; rw [fm_frz, List.append_nil]
  have hnd := List.nodup_append.1 R.nd
  refine ⟨⟨R.len, R.nb, fun i x b hi hb => (R.box i x b hi hb).mono hup (Nat.le_refl _) rfl, fun r hr => ?_, by rw [hown]; exact hnd.1, fun a v hg => ⟨pubG_cell R a v hg, ?_⟩⟩, ⟨hup, Fr.refl _ _, fun b hb => ?_, fun a v hg => ?_⟩⟩
  · rw [frzL_eq] at hr
    obtain ⟨r0, hr0, rfl⟩ := List.mem_map.1 hr
    obtain ⟨ws, h1, h2⟩ := row_pub R hr0
    obtain ⟨ws', g1, g2, g3, g4⟩ := R.row r0 hr0
    cases r0
    exact ⟨ws, DenL.mono hup _ _ h1, h2.sz, h2.len, h2⟩
  · rw [hown]
    intro hm
    replace hg : pubG β H w a = some v := hg
    unfold pubG at hg
    split at hg
    · rename_i hrow
      exact hnd.2.2 _ hm _ hrow rfl
    · exact (R.g a v hg).2 (List.mem_append_left _ hm)
  · rw [hown] at hb; exact .inl (List.mem_append_left _ hb)
  · replace hg : pubG β H w a = some v := hg
    unfold pubG at hg
    split at hg
    · rename_i hrow; exact .inr (.inl (List.mem_append_right _ hrow))
    · exact .inl hg
/-- A contract that only tells a value, with rows of the run's own as arguments. -/
theorem Fc.useP {f : FuncId} {args args' : List SV} {r0 : SV} {K : SV → Hp → Prop} (h : Fc P f args' r0) (hl : puPL H args args') (hk : K r0 ⟨H.nb, H.boxes, frzL H.rows⟩) : Tr P f args H K := by
  refine ⟨fun β w xs R hd => ?_⟩
  obtain ⟨R1, X1⟩ := R.frz
  refine ((h ⟨H.nb, H.boxes, frzL H.rows⟩).run _ w xs R1 (puPL_den R _ _ _ hl hd)).mono ?_
  rintro x w' ⟨r, H', β', h1, h2, h3, h4, h5⟩
  exact ⟨r, H', β', h1, h2, X1.trans h3, by rw [h4, h5]; exact hk⟩
end
end Go.Sy

