import Derived.Test.YtmjpidjdbofdjaaGreatOp
import Derived.Test.YtmjpidjdbofdjaaGreatPg
/- How a uint8 reads. How an arena reads, flags within their bounds. -/
set_option linter.unusedVariables false
set_option linter.unusedSimpArgs false
set_option maxRecDepth 100000
namespace Go.Proofs.YtmjpidjdbofdjaaGreat
open Go Go.Sy
theorem op_u8 {g : Addr → Option Value} : Opn Tryz.prog g t_uint8 (fun n : {n : Int // 0 ≤ n ∧ n < 256} => .v (.int .u8 n.1)) := by
  intro f cs hs
  cases f with
  | zero => exact hs.elim
  | succ f =>
    unfold Shp at hs
    rw [u_uint8] at hs
    obtain ⟨n, rfl, hw⟩ := hs
    have hb : 0 ≤ n ∧ n < 256 := by
      simp only [Lit.wf, Bool.and_eq_true, decide_eq_true_eq] at hw
      have h1 : IntKind.u8.min = 0 := by decide
      have h2 : IntKind.u8.max = 255 := by decide
      omega
    exact ⟨⟨n, hb⟩, _, rfl, rfl, by simp [Value.oneCell']⟩
end Go.Proofs.YtmjpidjdbofdjaaGreat
namespace Go.Proofs.YtmjpidjdbofdjaaGreat
open Go Go.Sy
variable {g : Addr → Option Value}
theorem op_u64w : Opn Tryz.prog g t_uint64 (fun n : {n : Int // 0 ≤ n ∧ n < 18446744073709551616} => .v (.int .u64 n.1)) := by
  intro f cs hs
  cases f with
  | zero => exact hs.elim
  | succ f =>
    unfold Shp at hs
    rw [u_uint64] at hs
    obtain ⟨n, rfl, hw⟩ := hs
    have hb : 0 ≤ n ∧ n < 18446744073709551616 := by
      simp only [Lit.wf, Bool.and_eq_true, decide_eq_true_eq] at hw
      have h1 : IntKind.u64.min = 0 := by decide
      have h2 : IntKind.u64.max = 18446744073709551615 := by decide
      omega
    exact ⟨⟨n, hb⟩, _, rfl, rfl, by simp [Value.oneCell']⟩
theorem op_valw : Opn Tryz.prog g t_Value (fun v : {v : Val // 0 ≤ v.flags ∧ v.flags < 18446744073709551616} => v.1.sv) := by
  intro f cs hs
  cases f with
  | zero => exact hs.elim
  | succ f =>
    unfold Shp at hs
    rw [u_Value] at hs
    obtain ⟨hl, h⟩ := hs
    rw [cells_val] at hl
    match cs, hl with
    | [x0, x1, x2, x3, x4, x5, x6, x7], _ =>
      simp only [List.mem_cons, List.not_mem_nil, or_false, forall_eq_or_imp, forall_eq, cells_int, cells_bool, cells_string, cells_u64, cells_ints, cells_ents, cells_val, cells_dig, List.drop_zero, List.drop_succ_cons, List.take_succ_cons, List.take_zero] at h
      obtain ⟨h0, h1, h2, h3, h4, h5, h6, h7⟩ := h
      obtain ⟨a0, y0, d0, e0, o0⟩ := op_int _ _ h0
      obtain ⟨a1, y1, d1, e1, o1⟩ := op_int _ _ h1
      obtain ⟨a2, y2, d2, e2, o2⟩ := op_int _ _ h2
      obtain ⟨a3, y3, d3, e3, o3⟩ := op_bool _ _ h3
      obtain ⟨a4, y4, d4, e4, o4⟩ := op_string _ _ h4
      obtain ⟨a5, y5, d5, e5, o5⟩ := op_ints _ _ h5
      obtain ⟨a6, y6, d6, e6, o6⟩ := op_ints _ _ h6
      obtain ⟨⟨a7, hfl⟩, y7, d7, e7, o7⟩ := op_u64w _ _ h7
      refine ⟨⟨⟨a0, a1, a2, a3, a4, a5, a6, a7⟩, hfl⟩, .agg #[x0, x1, x2, x3, x4, x5, x6, x7], ⟨[x0, x1, x2, x3, x4, x5, x6, x7], ⟨_, _, opn_one d0 e0 rfl, ⟨_, _, opn_one d1 e1 rfl, ⟨_, _, opn_one d2 e2 rfl, ⟨_, _, opn_one d3 e3 rfl, ⟨_, _, opn_one d4 e4 rfl, ⟨_, _, opn_one d5 e5 rfl, ⟨_, _, opn_one d6 e6 rfl, ⟨_, _, opn_one d7 e7 rfl, rfl, rfl⟩, rfl⟩, rfl⟩, rfl⟩, rfl⟩, rfl⟩, rfl⟩, rfl⟩, rfl⟩, rfl, ?_⟩
      intro u hu
      simp only [List.mem_cons, List.not_mem_nil, or_false] at hu
      rcases hu with rfl | rfl | rfl | rfl | rfl | rfl | rfl | rfl
      · exact o0 _ (List.mem_singleton.2 rfl)
      · exact o1 _ (List.mem_singleton.2 rfl)
      · exact o2 _ (List.mem_singleton.2 rfl)
      · exact o3 _ (List.mem_singleton.2 rfl)
      · exact o4 _ (List.mem_singleton.2 rfl)
      · exact o5 _ (List.mem_singleton.2 rfl)
      · exact o6 _ (List.mem_singleton.2 rfl)
      · exact o7 _ (List.mem_singleton.2 rfl)
theorem op_entw : Opn Tryz.prog g t_Entry (fun e : {e : Ent // e.fw} => e.1.sv) := by
  intro f cs hs
  cases f with
  | zero => exact hs.elim
  | succ f =>
    unfold Shp at hs
    rw [u_Entry] at hs
    obtain ⟨hl, h⟩ := hs
    rw [cells_ent] at hl
    match cs, hl with
    | [x0, x1, x2, x3, x4, x5, x6, x7, x8], _ =>
      simp only [List.mem_cons, List.not_mem_nil, or_false, forall_eq_or_imp, forall_eq, cells_int, cells_bool, cells_string, cells_u64, cells_ints, cells_ents, cells_val, cells_dig, List.drop_zero, List.drop_succ_cons, List.take_succ_cons, List.take_zero] at h
      obtain ⟨h0, h1⟩ := h
      obtain ⟨a0, y0, d0, e0, o0⟩ := op_string _ _ h0
      obtain ⟨⟨v, hfl⟩, y1, ⟨xs, d1, rfl⟩, e1, o1⟩ := op_valw _ _ h1
      have e1 : xs = [x1, x2, x3, x4, x5, x6, x7, x8] := by simpa [Value.cells] using e1
      subst e1
      refine ⟨⟨⟨a0, v⟩, hfl⟩, .agg #[x0, x1, x2, x3, x4, x5, x6, x7, x8], ⟨[x0, x1, x2, x3, x4, x5, x6, x7, x8], ⟨_, _, opn_one d0 e0 rfl, d1, rfl⟩, rfl⟩, rfl, ?_⟩
      intro u hu
      rcases List.mem_cons.1 hu with rfl | hu
      · exact o0 _ (List.mem_singleton.2 rfl)
      · exact o1 u hu
theorem op_entsw : Opn Tryz.prog g t_LEntry (fun l : {l : List Ent // ∀ e ∈ l, e.fw} => ents l.1) := by
  intro f cs hs
  obtain ⟨l, y, h1, h2, h3⟩ := Opn.slice u_LEntry (op_entw (g := g)) cells_ent f cs hs
  refine ⟨⟨l.map (·.1), fun e he => ?_⟩, y, ?_, h2, h3⟩
  · obtain ⟨x, _, rfl⟩ := List.mem_map.1 he
    exact x.2
  · show Den _ (.lst false 9 ((l.map (·.1)).map Ent.sv)) y
    rw [List.map_map]
    exact h1
theorem op_arw : Opn Tryz.prog g t_Arena (fun a : {a : Ar // a.fw} => a.1.sv) := by
  intro f cs hs
  cases f with
  | zero => exact hs.elim
  | succ f =>
    unfold Shp at hs
    rw [u_Arena] at hs
    obtain ⟨hl, h⟩ := hs
    rw [cells_ar] at hl
    match cs, hl with
    | [x0, x1, x2], _ =>
      simp only [List.mem_cons, List.not_mem_nil, or_false, forall_eq_or_imp, forall_eq, cells_int, cells_bool, cells_string, cells_u64, cells_ints, cells_ents, cells_val, cells_dig, List.drop_zero, List.drop_succ_cons, List.take_succ_cons, List.take_zero] at h
      obtain ⟨h0, h1, h2⟩ := h
      obtain ⟨a0, y0, d0, e0, o0⟩ := op_int _ _ h0
      obtain ⟨⟨a1, hfl⟩, y1, d1, e1, o1⟩ := op_entsw _ _ h1
      obtain ⟨a2, y2, d2, e2, o2⟩ := op_ints _ _ h2
      refine ⟨⟨⟨a0, a1, a2⟩, hfl⟩, .agg #[x0, x1, x2], ⟨[x0, x1, x2], ⟨_, _, opn_one d0 e0 rfl, ⟨_, _, opn_one d1 e1 rfl, ⟨_, _, opn_one d2 e2 rfl, rfl, rfl⟩, rfl⟩, rfl⟩, rfl⟩, rfl, ?_⟩
      intro u hu
      simp only [List.mem_cons, List.not_mem_nil, or_false] at hu
      rcases hu with rfl | rfl | rfl
      · exact o0 _ (List.mem_singleton.2 rfl)
      · exact o1 _ (List.mem_singleton.2 rfl)
      · exact o2 _ (List.mem_singleton.2 rfl)
end Go.Proofs.YtmjpidjdbofdjaaGreat

