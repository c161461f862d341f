import Derived.Test.YthdkofhgdmgdcaaYS
import Derived.ChangeKeysEq
import Derived.Laws.StructEq
/- Sy, part U: how structs and arrays of plain things compare. -/
set_option linter.unusedVariables false
set_option linter.unusedSimpArgs false
namespace Go.Sy
open Go

section
variable {P : Program}
def nums (k : IntKind) (xs : List Int) : List SV := xs.map fun x => .v (.int k x)
theorem nums_den {β : Gh} {k : IntKind} : ∀ {xs : List Int} {ys : List Value}, DenL β (nums k xs) ys → ys = xs.map (.int k)
  | [], _, h => h
  | x :: r, _, ⟨y, zs, h1, h2, h3⟩ => by
    simp only [Den] at h1
    rw [h3, h1, nums_den h2]
    rfl
theorem eqItems_ints {e : TypeId} {kd : IntKind} {i : TypeInfo} (he : P.underlying e = some (.int kd)) (hi : P.info? e = some i) (hc : i.size = 1) (d : Nat) (k : IntKind) (xs ys : List Int) (w : World) :
    ∀ (is : List Nat), (∀ j ∈ is, j < xs.length ∧ j < ys.length) → (Op.eqItems (d + 1) e 1 (xs.map (Value.int k)).toArray (ys.map (Value.int k)).toArray is).run P w = .ok (is.all fun j => xs[j]? == ys[j]?) w
  | [], _ => by simp [Op.eqItems]
  | j :: is, h => by
    obtain ⟨h1, h2⟩ := h j (by simp)
    have part_int : ∀ (zs : List Int) (hz : j < zs.length), (part e (zs.map (Value.int k)).toArray (j * 1)).run P w = .ok (.int k zs[j]) w := by
      intro zs hz
      have ha : (isAgg e).run P w = .ok false w := run_isAgg' he w
      simp [part, ha, hz]
    have e1 : xs[j]? = some xs[j] := List.getElem?_eq_getElem h1
    have e2 : ys[j]? = some ys[j] := List.getElem?_eq_getElem h2
    simp only [Op.eqItems, Sem.run_bind, part_int xs h1, part_int ys h2, Result.andThen_ok, run_equalIn_int w d e k kd _ _ he]
    have ih := eqItems_ints he hi hc d k xs ys w is (fun j hj => h j (by simp [hj]))
    cases hb : (xs[j] == ys[j])
    · have : ((xs[j]? == ys[j]?) = false) := by rw [e1, e2]; simpa using hb
      simp [this]
    · have : ((xs[j]? == ys[j]?) = true) := by rw [e1, e2]; simpa using hb
      simp [this, ih]
theorem all_range_eq {xs ys : List Int} {n : Nat} (hx : xs.length = n) (hy : ys.length = n) : ((List.range n).all fun j => xs[j]? == ys[j]?) = decide (xs = ys) := by
  rw [Bool.eq_iff_iff]
  simp only [List.all_eq_true, List.mem_range, beq_iff_eq, decide_eq_true_eq]
  constructor
  · intro h
    apply List.ext_getElem?
    intro j
    rcases Nat.lt_or_ge j n with hj | hj
    · exact h j hj
    · rw [List.getElem?_eq_none (by omega), List.getElem?_eq_none (by omega)]
  · intro h j _; rw [h]
theorem AggEq.ints {t e : TypeId} {n : Nat} {kd : IntKind} {i : TypeInfo} (ht : P.underlying t = some (.array n e)) (he : P.underlying e = some (.int kd)) (hi : P.info? e = some i) (hc : i.size = 1)
    (hg : P.eqGuardType P.depth t = false) {k : IntKind} {xs ys : List Int} (hx : xs.length = n) (hy : ys.length = n) {K : Bool → Prop} (h : K (decide (xs = ys))) : AggEq P .eql t (nums k xs) (nums k ys) K := by
  refine ⟨_, fun β w ox oy as bs ha hb => ?_, h⟩
  rw [nums_den ha, nums_den hb]
  have hcell : P.cellsOf e = 1 := by simp [Program.cellsOf, hi, hc]
  simp only [Sem.run_bind, run_eqGuard_agg w .eql t ox oy _ _ hg, Result.andThen_ok, run_eql_struct w t]
  have := run_equalIn_array w 9999 (xs.map (Value.int k)).toArray (ys.map (Value.int k)).toArray ht hi
  rw [show (10000 : Nat) = 9999 + 1 from rfl, this, hcell]
  have h2 := eqItems_ints he hi hc 9998 k xs ys w (List.range n) (fun j hj => by simp at hj; omega)
  rw [show (9999 : Nat) = 9998 + 1 from rfl, h2, all_range_eq hx hy]
  rfl
end
end Go.Sy

