import Derived.Test.YtmjpidjdbofdjaaOp
/- How a uint8 reads. -/
set_option linter.unusedVariables false
set_option linter.unusedSimpArgs false
set_option maxRecDepth 100000
namespace Go.Proofs.Ytmjpidjdbofdjaa
open Go Go.Sy
theorem op_u8 {g : Addr → Option Value} : Opn Try.prog g t_uint8 (fun n : {n : Int // 0 ≤ n ∧ n < 256} => .v (.int .u8 n.1)) := by
  intro f cs hs
  cases f with
  | zero => exact hs.elim
  | succ f =>
    unfold Shp at hs
    rw [u_uint8] at hs
    obtain ⟨n, rfl, hw⟩ := hs
    have hb : 0 ≤ n ∧ n < 256 := by
      simp only [Lit.wf, Bool.and_eq_true, decide_eq_true_eq] at hw
      have h1 : IntKind.u8.min = 0 := by decide
      have h2 : IntKind.u8.max = 255 := by decide
      omega
    exact ⟨⟨n, hb⟩, _, rfl, rfl, by simp [Value.oneCell']⟩
end Go.Proofs.Ytmjpidjdbofdjaa

