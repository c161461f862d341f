import Derived.Test.YtmjpidjdbofdjaaGreatVn
import Derived.Test.YtmjpidjdbofdjaaGreatYZ
/- How the laws' arguments read. -/
set_option linter.unusedVariables false
set_option linter.unusedSimpArgs false
set_option maxRecDepth 100000
namespace Go.Proofs.YtmjpidjdbofdjaaGreat
open Go Go.Sy
variable {g : Addr → Option Value}
theorem op_int : Opn Tryz.prog g t_int iv := Opn.int u_int
theorem op_u64 : Opn Tryz.prog g t_uint64 (fun n => .v (.int .u64 n)) := Opn.int u_uint64
theorem op_bool : Opn Tryz.prog g t_bool sb := Opn.bool u_bool
theorem op_string : Opn Tryz.prog g t_string ss := Opn.string u_string
theorem op_ints : Opn Tryz.prog g t_Lint ints := Opn.slice u_Lint op_int (by kernel_rfl)
theorem cells_int : Tryz.prog.cellsOf t_int = 1 := by kernel_rfl
theorem cells_bool : Tryz.prog.cellsOf t_bool = 1 := by kernel_rfl
theorem cells_string : Tryz.prog.cellsOf t_string = 1 := by kernel_rfl
theorem cells_u64 : Tryz.prog.cellsOf t_uint64 = 1 := by kernel_rfl
theorem cells_ints : Tryz.prog.cellsOf t_Lint = 1 := by kernel_rfl
theorem cells_ents : Tryz.prog.cellsOf t_LEntry = 1 := by kernel_rfl
theorem cells_val : Tryz.prog.cellsOf t_Value = 8 := by kernel_rfl
theorem cells_ent : Tryz.prog.cellsOf t_Entry = 9 := by kernel_rfl
theorem cells_ar : Tryz.prog.cellsOf t_Arena = 3 := by kernel_rfl
theorem cells_dig : Tryz.prog.cellsOf t_4_int = 4 := by kernel_rfl
theorem cells_fra : Tryz.prog.cellsOf t_frame_Frame = 8 := by kernel_rfl
theorem op_val : Opn Tryz.prog g t_Value Val.sv := by
  intro f cs hs
  cases f with
  | zero => exact hs.elim
  | succ f =>
    unfold Shp at hs
    rw [u_Value] at hs
    obtain ⟨hl, h⟩ := hs
    rw [cells_val] at hl
    match cs, hl with
    | [x0, x1, x2, x3, x4, x5, x6, x7], _ =>
      simp only [List.mem_cons, List.not_mem_nil, or_false, forall_eq_or_imp, forall_eq, cells_int, cells_bool, cells_string, cells_u64, cells_ints, cells_ents, cells_val, cells_dig, List.drop_zero, List.drop_succ_cons, List.take_succ_cons, List.take_zero] at h
      obtain ⟨h0, h1, h2, h3, h4, h5, h6, h7⟩ := h
      obtain ⟨a0, y0, d0, e0, o0⟩ := op_int _ _ h0
      obtain ⟨a1, y1, d1, e1, o1⟩ := op_int _ _ h1
      obtain ⟨a2, y2, d2, e2, o2⟩ := op_int _ _ h2
      obtain ⟨a3, y3, d3, e3, o3⟩ := op_bool _ _ h3
      obtain ⟨a4, y4, d4, e4, o4⟩ := op_string _ _ h4
      obtain ⟨a5, y5, d5, e5, o5⟩ := op_ints _ _ h5
      obtain ⟨a6, y6, d6, e6, o6⟩ := op_ints _ _ h6
      obtain ⟨a7, y7, d7, e7, o7⟩ := op_u64 _ _ h7
      refine ⟨⟨a0, a1, a2, a3, a4, a5, a6, a7⟩, .agg #[x0, x1, x2, x3, x4, x5, x6, x7], ⟨[x0, x1, x2, x3, x4, x5, x6, x7], ⟨_, _, opn_one d0 e0 rfl, ⟨_, _, opn_one d1 e1 rfl, ⟨_, _, opn_one d2 e2 rfl, ⟨_, _, opn_one d3 e3 rfl, ⟨_, _, opn_one d4 e4 rfl, ⟨_, _, opn_one d5 e5 rfl, ⟨_, _, opn_one d6 e6 rfl, ⟨_, _, opn_one d7 e7 rfl, rfl, rfl⟩, rfl⟩, rfl⟩, rfl⟩, rfl⟩, rfl⟩, rfl⟩, rfl⟩, rfl⟩, rfl, ?_⟩
      intro u hu
      simp only [List.mem_cons, List.not_mem_nil, or_false] at hu
      rcases hu with rfl | rfl | rfl | rfl | rfl | rfl | rfl | rfl
      · exact o0 _ (List.mem_singleton.2 rfl)
      · exact o1 _ (List.mem_singleton.2 rfl)
      · exact o2 _ (List.mem_singleton.2 rfl)
      · exact o3 _ (List.mem_singleton.2 rfl)
      · exact o4 _ (List.mem_singleton.2 rfl)
      · exact o5 _ (List.mem_singleton.2 rfl)
      · exact o6 _ (List.mem_singleton.2 rfl)
      · exact o7 _ (List.mem_singleton.2 rfl)
theorem op_ent : Opn Tryz.prog g t_Entry Ent.sv := by
  intro f cs hs
  cases f with
  | zero => exact hs.elim
  | succ f =>
    unfold Shp at hs
    rw [u_Entry] at hs
    obtain ⟨hl, h⟩ := hs
    rw [cells_ent] at hl
    match cs, hl with
    | [x0, x1, x2, x3, x4, x5, x6, x7, x8], _ =>
      simp only [List.mem_cons, List.not_mem_nil, or_false, forall_eq_or_imp, forall_eq, cells_int, cells_bool, cells_string, cells_u64, cells_ints, cells_ents, cells_val, cells_dig, List.drop_zero, List.drop_succ_cons, List.take_succ_cons, List.take_zero] at h
      obtain ⟨h0, h1⟩ := h
      obtain ⟨a0, y0, d0, e0, o0⟩ := op_string _ _ h0
      obtain ⟨v, y1, ⟨xs, d1, rfl⟩, e1, o1⟩ := op_val _ _ h1
      have e1 : xs = [x1, x2, x3, x4, x5, x6, x7, x8] := by simpa [Value.cells] using e1
      subst e1
      refine ⟨⟨a0, v⟩, .agg #[x0, x1, x2, x3, x4, x5, x6, x7, x8], ⟨[x0, x1, x2, x3, x4, x5, x6, x7, x8], ⟨_, _, opn_one d0 e0 rfl, d1, rfl⟩, rfl⟩, rfl, ?_⟩
      intro u hu
      rcases List.mem_cons.1 hu with rfl | hu
      · exact o0 _ (List.mem_singleton.2 rfl)
      · exact o1 u hu
theorem op_ents : Opn Tryz.prog g t_LEntry ents := Opn.slice u_LEntry op_ent cells_ent
theorem op_ar : Opn Tryz.prog g t_Arena Ar.sv := by
  intro f cs hs
  cases f with
  | zero => exact hs.elim
  | succ f =>
    unfold Shp at hs
    rw [u_Arena] at hs
    obtain ⟨hl, h⟩ := hs
    rw [cells_ar] at hl
    match cs, hl with
    | [x0, x1, x2], _ =>
      simp only [List.mem_cons, List.not_mem_nil, or_false, forall_eq_or_imp, forall_eq, cells_int, cells_bool, cells_string, cells_u64, cells_ints, cells_ents, cells_val, cells_dig, List.drop_zero, List.drop_succ_cons, List.take_succ_cons, List.take_zero] at h
      obtain ⟨h0, h1, h2⟩ := h
      obtain ⟨a0, y0, d0, e0, o0⟩ := op_int _ _ h0
      obtain ⟨a1, y1, d1, e1, o1⟩ := op_ents _ _ h1
      obtain ⟨a2, y2, d2, e2, o2⟩ := op_ints _ _ h2
      refine ⟨⟨a0, a1, a2⟩, .agg #[x0, x1, x2], ⟨[x0, x1, x2], ⟨_, _, opn_one d0 e0 rfl, ⟨_, _, opn_one d1 e1 rfl, ⟨_, _, opn_one d2 e2 rfl, rfl, rfl⟩, rfl⟩, rfl⟩, rfl⟩, rfl, ?_⟩
      intro u hu
      simp only [List.mem_cons, List.not_mem_nil, or_false] at hu
      rcases hu with rfl | rfl | rfl
      · exact o0 _ (List.mem_singleton.2 rfl)
      · exact o1 _ (List.mem_singleton.2 rfl)
      · exact o2 _ (List.mem_singleton.2 rfl)
theorem op_fra : Opn Tryz.prog g t_frame_Frame Fra.sv := by
  intro f cs hs
  cases f with
  | zero => exact hs.elim
  | succ f =>
    unfold Shp at hs
    rw [u_frame_Frame] at hs
    obtain ⟨hl, h⟩ := hs
    rw [cells_fra] at hl
    match cs, hl with
    | [x0, x1, x2, x3, x4, x5, x6, x7], _ =>
      simp only [List.mem_cons, List.not_mem_nil, or_false, forall_eq_or_imp, forall_eq, cells_int, cells_bool, cells_string, cells_u64, cells_ints, cells_ents, cells_val, cells_dig, List.drop_zero, List.drop_succ_cons, List.take_succ_cons, List.take_zero] at h
      obtain ⟨h0, h1, h2, h3, h4⟩ := h
      obtain ⟨a0, y0, d0, e0, o0⟩ := op_int _ _ h0
      obtain ⟨a1, y1, d1, e1, o1⟩ := op_int _ _ h1
      obtain ⟨a2, y2, d2, e2, o2⟩ := op_int _ _ h2
      obtain ⟨a7, y7, d7, e7, o7⟩ := op_ents _ _ h4
      cases f with
      | zero => exact h3.elim
      | succ f =>
        unfold Shp at h3
        rw [u_4_int] at h3
        obtain ⟨_, h3⟩ := h3
        have h30 := h3 0 (by omega)
        have h31 := h3 1 (by omega)
        have h32 := h3 2 (by omega)
        have h33 := h3 3 (by omega)
        simp only [cells_int, Nat.zero_mul, Nat.one_mul, Nat.mul_one, List.drop_zero, List.drop_succ_cons, List.take_succ_cons, List.take_zero] at h30 h31 h32 h33
        obtain ⟨a3, y3, d3, e3, o3⟩ := op_int _ _ h30
        obtain ⟨a4, y4, d4, e4, o4⟩ := op_int _ _ h31
        obtain ⟨a5, y5, d5, e5, o5⟩ := op_int _ _ h32
        obtain ⟨a6, y6, d6, e6, o6⟩ := op_int _ _ h33
        refine ⟨⟨a0, a1, a2, a3, a4, a5, a6, a7⟩, .agg #[x0, x1, x2, x3, x4, x5, x6, x7], ⟨[x0, x1, x2, x3, x4, x5, x6, x7], ⟨_, _, opn_one d0 e0 rfl, ⟨_, _, opn_one d1 e1 rfl, ⟨_, _, opn_one d2 e2 rfl, ⟨_, _, opn_one d3 e3 rfl, ⟨_, _, opn_one d4 e4 rfl, ⟨_, _, opn_one d5 e5 rfl, ⟨_, _, opn_one d6 e6 rfl, ⟨_, _, opn_one d7 e7 rfl, rfl, rfl⟩, rfl⟩, rfl⟩, rfl⟩, rfl⟩, rfl⟩, rfl⟩, rfl⟩, rfl⟩, rfl, ?_⟩
        intro u hu
        simp only [List.mem_cons, List.not_mem_nil, or_false] at hu
        rcases hu with rfl | rfl | rfl | rfl | rfl | rfl | rfl | rfl
        · exact o0 _ (List.mem_singleton.2 rfl)
        · exact o1 _ (List.mem_singleton.2 rfl)
        · exact o2 _ (List.mem_singleton.2 rfl)
        · exact o3 _ (List.mem_singleton.2 rfl)
        · exact o4 _ (List.mem_singleton.2 rfl)
        · exact o5 _ (List.mem_singleton.2 rfl)
        · exact o6 _ (List.mem_singleton.2 rfl)
        · exact o7 _ (List.mem_singleton.2 rfl)
end Go.Proofs.YtmjpidjdbofdjaaGreat

