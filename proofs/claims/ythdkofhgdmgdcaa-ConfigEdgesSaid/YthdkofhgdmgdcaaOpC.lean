import Derived.Test.YthdkofhgdmgdcaaCc
import Derived.Test.YthdkofhgdmgdcaaYV
/- How the law's arguments read. -/
set_option linter.unusedVariables false
set_option linter.unusedSimpArgs false
set_option maxRecDepth 100000
namespace Go.Proofs.Ythdkofhgdmgdcaa
open Go Go.Sy
variable {g : Addr → Option Value}
theorem op_int : Opn Try.prog g t_int iv := Opn.int u_int
theorem op_u8 : Opn Try.prog g t_uint8 (fun n => .v (.int .u8 n)) := Opn.int u_uint8
theorem cells_int : Try.prog.cellsOf t_int = 1 := by kernel_rfl
theorem cells_cf : Try.prog.cellsOf t_Config = 8 := by kernel_rfl
theorem op_cf : Opn Try.prog g t_Config Cf.sv := by
  intro f cs hs
  cases f with
  | zero => exact hs.elim
  | succ f =>
    unfold Shp at hs
    rw [u_Config] at hs
    obtain ⟨hl, h⟩ := hs
    rw [cells_cf] at hl
    match cs, hl with
    | [x0, x1, x2, x3, x4, x5, x6, x7], _ =>
      simp only [List.mem_cons, List.not_mem_nil, or_false, forall_eq_or_imp, forall_eq, cells_int, List.drop_zero, List.drop_succ_cons, List.take_succ_cons, List.take_zero] at h
      obtain ⟨h0, h1, h2, h3, h4, h5, h6, h7⟩ := h
      obtain ⟨a0, y0, d0, e0, o0⟩ := op_int _ _ h0
      obtain ⟨a1, y1, d1, e1, o1⟩ := op_int _ _ h1
      obtain ⟨a2, y2, d2, e2, o2⟩ := op_int _ _ h2
      obtain ⟨a3, y3, d3, e3, o3⟩ := op_int _ _ h3
      obtain ⟨a4, y4, d4, e4, o4⟩ := op_int _ _ h4
      obtain ⟨a5, y5, d5, e5, o5⟩ := op_int _ _ h5
      obtain ⟨a6, y6, d6, e6, o6⟩ := op_int _ _ h6
      obtain ⟨a7, y7, d7, e7, o7⟩ := op_int _ _ h7
      refine ⟨⟨a0, a1, a2, a3, a4, a5, a6, a7⟩, .agg #[x0, x1, x2, x3, x4, x5, x6, x7], ⟨[x0, x1, x2, x3, x4, x5, x6, x7], ⟨_, _, opn_one d0 e0 rfl, ⟨_, _, opn_one d1 e1 rfl, ⟨_, _, opn_one d2 e2 rfl, ⟨_, _, opn_one d3 e3 rfl, ⟨_, _, opn_one d4 e4 rfl, ⟨_, _, opn_one d5 e5 rfl, ⟨_, _, opn_one d6 e6 rfl, ⟨_, _, opn_one d7 e7 rfl, rfl, rfl⟩, rfl⟩, rfl⟩, rfl⟩, rfl⟩, rfl⟩, rfl⟩, rfl⟩, rfl⟩, rfl, ?_⟩
      intro u hu
      simp only [List.mem_cons, List.not_mem_nil, or_false] at hu
      rcases hu with rfl | rfl | rfl | rfl | rfl | rfl | rfl | rfl
      · exact o0 _ (List.mem_singleton.2 rfl)
      · exact o1 _ (List.mem_singleton.2 rfl)
      · exact o2 _ (List.mem_singleton.2 rfl)
      · exact o3 _ (List.mem_singleton.2 rfl)
      · exact o4 _ (List.mem_singleton.2 rfl)
      · exact o5 _ (List.mem_singleton.2 rfl)
      · exact o6 _ (List.mem_singleton.2 rfl)
      · exact o7 _ (List.mem_singleton.2 rfl)
end Go.Proofs.Ythdkofhgdmgdcaa

