import Derived.Test.YtmjpidjdbofdjaaGreatOpW
import Derived.Test.YtmjpidjdbofdjaaGreatRf
/- How a frame reads, its sums within their bounds. -/
set_option linter.unusedVariables false
set_option linter.unusedSimpArgs false
set_option maxRecDepth 100000
namespace Go.Proofs.YtmjpidjdbofdjaaGreat
open Go Go.Sy
variable {g : Addr → Option Value}
theorem op_i64w : Opn Tryz.prog g t_int (fun n : {n : Int // n ≤ 9223372036854775807} => iv n.1) := by
  intro f cs hs
  cases f with
  | zero => exact hs.elim
  | succ f =>
    unfold Shp at hs
    rw [u_int] at hs
    obtain ⟨n, rfl, hw⟩ := hs
    have hb : n ≤ 9223372036854775807 := by
      simp only [Lit.wf, Bool.and_eq_true, decide_eq_true_eq] at hw
      have h2 : IntKind.i64.max = 9223372036854775807 := by decide
      omega
    exact ⟨⟨n, hb⟩, _, rfl, rfl, by simp [Value.oneCell']⟩
theorem op_fraw : Opn Tryz.prog g t_frame_Frame (fun f : {f : Fra // f.iw} => f.1.sv) := by
  intro f cs hs
  cases f with
  | zero => exact hs.elim
  | succ f =>
    unfold Shp at hs
    rw [u_frame_Frame] at hs
    obtain ⟨hl, h⟩ := hs
    rw [cells_fra] at hl
    match cs, hl with
    | [x0, x1, x2, x3, x4, x5, x6, x7], _ =>
      simp only [List.mem_cons, List.not_mem_nil, or_false, forall_eq_or_imp, forall_eq, cells_int, cells_bool, cells_string, cells_u64, cells_ints, cells_ents, cells_val, cells_dig, List.drop_zero, List.drop_succ_cons, List.take_succ_cons, List.take_zero] at h
      obtain ⟨h0, h1, h2, h3, h4⟩ := h
      obtain ⟨a0, y0, d0, e0, o0⟩ := op_int _ _ h0
      obtain ⟨a1, y1, d1, e1, o1⟩ := op_int _ _ h1
      obtain ⟨a2, y2, d2, e2, o2⟩ := op_int _ _ h2
      obtain ⟨a7, y7, d7, e7, o7⟩ := op_ents _ _ h4
      cases f with
      | zero => exact h3.elim
      | succ f =>
        unfold Shp at h3
        rw [u_4_int] at h3
        obtain ⟨_, h3⟩ := h3
        have h30 := h3 0 (by omega)
        have h31 := h3 1 (by omega)
        have h32 := h3 2 (by omega)
        have h33 := h3 3 (by omega)
        simp only [cells_int, Nat.zero_mul, Nat.one_mul, Nat.mul_one, List.drop_zero, List.drop_succ_cons, List.take_succ_cons, List.take_zero] at h30 h31 h32 h33
        obtain ⟨⟨a3, b3⟩, y3, d3, e3, o3⟩ := op_i64w _ _ h30
        obtain ⟨⟨a4, b4⟩, y4, d4, e4, o4⟩ := op_i64w _ _ h31
        obtain ⟨⟨a5, b5⟩, y5, d5, e5, o5⟩ := op_i64w _ _ h32
        obtain ⟨⟨a6, b6⟩, y6, d6, e6, o6⟩ := op_i64w _ _ h33
        refine ⟨⟨⟨a0, a1, a2, a3, a4, a5, a6, a7⟩, b3, b4, b5, b6⟩, .agg #[x0, x1, x2, x3, x4, x5, x6, x7], ⟨[x0, x1, x2, x3, x4, x5, x6, x7], ⟨_, _, opn_one d0 e0 rfl, ⟨_, _, opn_one d1 e1 rfl, ⟨_, _, opn_one d2 e2 rfl, ⟨_, _, opn_one d3 e3 rfl, ⟨_, _, opn_one d4 e4 rfl, ⟨_, _, opn_one d5 e5 rfl, ⟨_, _, opn_one d6 e6 rfl, ⟨_, _, opn_one d7 e7 rfl, rfl, rfl⟩, rfl⟩, rfl⟩, rfl⟩, rfl⟩, rfl⟩, rfl⟩, rfl⟩, rfl⟩, rfl, ?_⟩
        intro u hu
        simp only [List.mem_cons, List.not_mem_nil, or_false] at hu
        rcases hu with rfl | rfl | rfl | rfl | rfl | rfl | rfl | rfl
        · exact o0 _ (List.mem_singleton.2 rfl)
        · exact o1 _ (List.mem_singleton.2 rfl)
        · exact o2 _ (List.mem_singleton.2 rfl)
        · exact o3 _ (List.mem_singleton.2 rfl)
        · exact o4 _ (List.mem_singleton.2 rfl)
        · exact o5 _ (List.mem_singleton.2 rfl)
        · exact o6 _ (List.mem_singleton.2 rfl)
        · exact o7 _ (List.mem_singleton.2 rfl)
end Go.Proofs.YtmjpidjdbofdjaaGreat

