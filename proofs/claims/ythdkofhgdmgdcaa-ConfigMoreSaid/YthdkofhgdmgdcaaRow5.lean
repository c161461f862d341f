/- A larger chunk needs no more rounds, a node more needs more, more slots need no fewer: proved for every input of the statement ConfigMore (no condition of its own): from the triple of the law (file ..Cfl) to the given row. -/
import Derived.Test.YthdkofhgdmgdcaaCfl
import Derived.Test.YthdkofhgdmgdcaaSxR
set_option linter.unusedVariables false
set_option linter.unusedSimpArgs false
namespace Go.Proofs.Ythdkofhgdmgdcaa
open Go Go.Sx Go.ChangeShapes Go.WideShapes Go.ChangeAt Go.RowKit
theorem own : ownKnob Try.prog.godebug = none := by kernel_rfl
theorem laidOut : laidOutB Try.prog = true := by kernel_rfl
theorem one_int {P : Program} {g : Addr → Option Value} {f : Nat} {t : TypeId} {k : IntKind} {cs : List Value} (hu : P.underlying t = some (.int k)) (h : Shp P g f t cs) : ∃ n, cs = [.int k n] := by
  cases f with
  | zero => exact h.elim
  | succ f =>
    unfold Shp at h
    rw [hu] at h
    obtain ⟨n, hn, _⟩ := h
    exact ⟨n, hn⟩
theorem cells23 : Try.prog.cellsOf 23 = 8 := by kernel_rfl
theorem cells3 : Try.prog.cellsOf 3 = 1 := by kernel_rfl
theorem open_cfg {g : Addr → Option Value} {f : Nat} {cs : List Value} (h : Shp Try.prog g f 23 cs) :
    ∃ a b c d e f g h : Int, cs = [.int .i64 a, .int .i64 b, .int .i64 c, .int .i64 d, .int .i64 e, .int .i64 f, .int .i64 g, .int .i64 h] := by
  cases f with
  | zero => exact h.elim
  | succ f =>
    unfold Shp at h
    rw [Try.underlying23] at h
    obtain ⟨hl, h⟩ := h
    rw [cells23] at hl
    match cs, hl with
    | [x0, x1, x2, x3, x4, x5, x6, x7], _ =>
      simp only [List.mem_cons, List.not_mem_nil, or_false, forall_eq_or_imp, forall_eq, cells3] at h
      obtain ⟨h0, h1, h2, h3, h4, h5, h6, h7⟩ := h
      obtain ⟨n0, h0⟩ := one_int Try.underlying3 h0
      obtain ⟨n1, h1⟩ := one_int Try.underlying3 h1
      obtain ⟨n2, h2⟩ := one_int Try.underlying3 h2
      obtain ⟨n3, h3⟩ := one_int Try.underlying3 h3
      obtain ⟨n4, h4⟩ := one_int Try.underlying3 h4
      obtain ⟨n5, h5⟩ := one_int Try.underlying3 h5
      obtain ⟨n6, h6⟩ := one_int Try.underlying3 h6
      obtain ⟨n7, h7⟩ := one_int Try.underlying3 h7
      simp at h0 h1 h2 h3 h4 h5 h6 h7
      exact ⟨n0, n1, n2, n3, n4, n5, n6, n7, by rw [h0, h1, h2, h3, h4, h5, h6, h7]⟩
set_option maxRecDepth 100000 in
theorem configMore_lifted (os : Os) (started : os.Started) (H : Type) (enc : TypeId × Value → H) :
    ReturnsInHanded {} Try.checked os 5 .any (Rows.configMoreSpec.pre6 enc Try.prog Try.f5 Rows.configMoreRow.domain false) (Rows.configMoreSpec.post enc Try.prog Try.f5 false true false false) := by
  refine returnsInHanded_of_change_sized (C := Try.checked) own started (by kernel_rfl) Try.func5
    (ChangeSpec.witness6 (enc := enc) (C := Try.checked) false ⟨#[], #[.agg #[.int .i64 0, .int .i64 0, .int .i64 0, .int .i64 0, .int .i64 0, .int .i64 0, .int .i64 0, .int .i64 0]], []⟩ 8 (by kernel_rfl) (by kernel_rfl) (by kernel_rfl) (by kernel_rfl)) ?_
  intro W base args ds gs before hval0 hW hcnd hsz0 _
  have hval : ∀ (j : Nat) t v, Try.f5.params[j]? = some t → args[j]? = some v → Value.okWide Try.prog W .any base t v := hval0
  have hW' := hW
  obtain ⟨p, q, hA0, hV, rfl, hfz, hnd⟩ := hW
  have hA : DataW.TrodAll enc Try.prog W 0 (fun _ => true) true Try.f5.params.toList args.toList ds p := hA0
  rw [Try.params5] at hA hval
  obtain ⟨v0, vs0, d0, ds0, p0, q0, hargs, rfl, rfl, h0, r0⟩ := trodAll_cons hA
  obtain ⟨rfl, rfl, rfl⟩ := trodAll_nil r0
  obtain rfl : args = #[v0] := by cases args; simp_all
  obtain ⟨rfl, rfl⟩ := trodVars_none hV
  have k0 := h0
  have lt0 : ∀ x ∈ p0, x.block < W.heap.size := by obtain ⟨m, hm⟩ := k0; exact DataW.trod_lt m _ _ _ hm
  obtain ⟨c0, rfl, hc0⟩ := okWide_struct Try.underlying23 (hval 0 23 v0 rfl rfl)
  obtain ⟨fuel, hf⟩ := h0
  have s0 := shp_of_trod fuel _ _ _ hf
  obtain ⟨a, b, c, d, e, f, g, h, hc⟩ := open_cfg s0
  obtain rfl : c0 = #[.int .i64 a, .int .i64 b, .int .i64 c, .int .i64 d, .int .i64 e, .int .i64 f, .int .i64 g, .int .i64 h] := by apply Array.ext'; simpa [Value.cells] using hc
  refine ((more5 a b c d e f g h (allOf W)).calls (xs := [.agg #[.int .i64 a, .int .i64 b, .int .i64 c, .int .i64 d, .int .i64 e, .int .i64 f, .int .i64 g, .int .i64 h]]) ⟨_, [], ⟨_, DenL.plain [] [.int .i64 a, .int .i64 b, .int .i64 c, .int .i64 d, .int .i64 e, .int .i64 f, .int .i64 g, .int .i64 h], rfl⟩, rfl, rfl⟩).mono fun e W' ⟨he, bel⟩ => ?_
  subst he
  exact ⟨_, rfl, _, _, _, [], _, [], hW', trodAll_mk1 (shut_bool Try.underlying4 _), trodAll_cons_mk (Below.trod laidOut (by kernel_rfl) (of_decide_eq_true (by kernel_rfl)) k0 bel lt0) trodAll_mk0, rfl, bel.frame _, fun h => by cases h⟩
theorem configMore_holds : Rows.ConfigMoreSaid :=
  OpenClaim.holds_of_wide 5 Try.f5 rfl rfl rfl rfl rfl rfl rfl ⟨rfl, rfl, rfl, rfl, rfl⟩ rfl rfl rfl rfl rfl (by kernel_rfl) Try.func5 (by kernel_rfl)
    (of_decide_eq_true (by kernel_rfl)) (by unfold Func.isWrapper; first | (rw [if_pos (by decide +kernel)]; kernel_rfl) | (rw [if_neg (by decide +kernel)]; exact ⟨rfl, rfl⟩))
    (fun os started H enc _ => configMore_lifted os started H enc)
#print axioms configMore_holds
end Go.Proofs.Ythdkofhgdmgdcaa
