import Derived.Test.YthdkofhgdmgdcabSxH
import Derived.WalkKit
import Derived.ProofKit
import Derived.OpenShut
import Derived.ShutString
import Derived.ChangeOld
import Derived.SizedLaws
import Derived.Carry
/- Sx, part R: from a call's triple to the rows' words; how arguments read. -/
set_option linter.unusedVariables false
set_option linter.unusedSimpArgs false
namespace Go.Sx
open Go Go.RowKit Go.ChangeShapes

/-- All that can be read in a world. -/
def allOf (w : World) : Addr → Option Value := fun a => w.cell? a
theorem Tr.calls {P : Program} {f : FuncId} {args : List SV} {w : World} {xs : List Value} {x : Value} (h : Tr P f args ⟨0, [], [], allOf w⟩ fun r _ => r = .v x) (hd : DenL [] args xs)
    (hf : ∃ fn, P.funcs[f]? = some fn ∧ fn.body.isSome = true ∧ (fn.name == "runtime.NumGoroutine") = false) :
    Calls P f xs.toArray w fun e w' => e = .returned x ∧ Below w.heap.size w w' := by
  have R : Rep [] ⟨0, [], [], allOf w⟩ w := ⟨rfl, rfl, fun i cs b h => by simp at h, fun r hr => by simp at hr, by simp [owned], fun a v hg => ⟨hg, by simp [owned]⟩⟩
  rcases h.run [] w xs R hd with ⟨_, h⟩ | ⟨y, w', h, _⟩
  · refine h.mono ?_
    rintro e w' ⟨y, rfl, r, H', β', h1, h2, h3, rfl⟩
    simp only [Den] at h1
    exact ⟨by rw [h1], ⟨h3.fr.os, h3.fr.tape, h3.fr.output, h3.fr.size, fun k hk => h3.fr.block k hk (by simp [owned])⟩⟩
  · obtain ⟨fn, hf, hb, hn⟩ := hf
    rw [run_callFunc hf hb hn] at h
    cases h

/-- How a value of a type lies in memory. -/
def Shp (P : Program) (g : Addr → Option Value) : Nat → TypeId → List Value → Prop
  | 0, _, _ => False
  | f + 1, t, cs => match P.underlying t with
    | some .bool => ∃ b, cs = [.bool b]
    | some (.int k) => ∃ n, cs = [.int k n] ∧ (Lit.int k n).wf = true
    | some .string => ∃ s, cs = [.string s] ∧ s.size ≤ maxLen
    | some (.struct fs) => cs.length = P.cellsOf t ∧ ∀ x ∈ fs.toList, Shp P g f x.type ((cs.drop x.offset).take (P.cellsOf x.type))
    | some (.array n e) => cs.length = P.cellsOf t ∧ ∀ i, i < n → Shp P g f e ((cs.drop (i * P.cellsOf e)).take (P.cellsOf e))
    | some (.slice e) => ∃ A n c, cs = [.slice A n c] ∧ n ≤ c ∧ c ≤ maxLen ∧ ((A = none ∧ n = 0 ∧ c = 0) ∨ ∃ a, A = some a ∧
        ∀ i, i < n → ∃ vs, vs.length = P.cellsOf e ∧ (∀ j u, vs[j]? = some u → g ((a.add (i * P.cellsOf e)).add j) = some u) ∧ Shp P g f e vs)
    | _ => True

section
variable {H : Type} {enc : TypeId × Value → H} {P : Program} {w : World}
theorem cells?_facts {base : Nat} {a : Addr} {n : Nat} {cs : List Value} (h : w.cells? base a n = some cs) : cs.length = n ∧ ∀ (j : Nat) (u : Value), cs[j]? = some u → w.cell? (a.add j) = some u := by
  unfold World.cells? at h
  split at h
  · have h1 : ∀ (l : List Nat) (cs : List Value), l.mapM (fun i => w.cell? (a.add i)) = some cs → cs.length = l.length ∧ ∀ (j i : Nat) (u : Value), l[j]? = some i → cs[j]? = some u → w.cell? (a.add i) = some u := by
      intro l
      induction l with
      | nil => intro cs h; simp at h; subst h; exact ⟨rfl, fun j i u h => by simp at h⟩
      | cons x l ih =>
        intro cs h
        simp only [List.mapM_cons, Option.bind_eq_bind, Option.bind_eq_some_iff] at h
        obtain ⟨y, hy, ys, hys, he⟩ := h
        injection he with he
        subst he
        obtain ⟨h2, h3⟩ := ih ys hys
        refine ⟨by simp [h2], fun j i u hj hu => ?_⟩
        cases j with
        | zero => simp at hj hu; subst hj; subst hu; exact hy
        | succ j => simp at hj hu; exact h3 j i u hj hu
    obtain ⟨h2, h3⟩ := h1 _ _ h
    refine ⟨by simpa using h2, fun j u hu => h3 j j u ?_ hu⟩
    have := (List.getElem?_eq_some_iff.1 hu).1
    rw [List.getElem?_range (by simpa [h2] using this)]
  · cases h
theorem mapM_some {α β : Type} {f : α → Option β} : ∀ {l : List α} {ys : List β}, l.mapM f = some ys → ∀ x ∈ l, ∃ y, f x = some y
  | [], _, _, x, hx => by simp at hx
  | a :: l, ys, h, x, hx => by
    simp only [List.mapM_cons, Option.bind_eq_bind, Option.bind_eq_some_iff] at h
    obtain ⟨y, hy, ys', hys, _⟩ := h
    rcases List.mem_cons.1 hx with rfl | hx
    · exact ⟨y, hy⟩
    · exact mapM_some hys x hx

theorem shp_of_trod {base : Nat} {spare : Nat → Bool} {held : Bool} : ∀ (fuel : Nat) (t : TypeId) (cs : List Value) (x : DataW H × List MemPlace), DataW.trod enc P w base spare held fuel t cs = some x → Shp P (allOf w) fuel t cs
  | 0, t, cs, x, h => by simp [DataW.trod] at h
  | fuel + 1, t, cs, x, h => by
    unfold DataW.trod at h
    unfold Shp
    split at h
    case h_1 b hu => simp only [hu]; exact ⟨b, rfl⟩
    case h_2 k k' n hu =>
      simp only [hu]
      split at h
      · rename_i hk; obtain ⟨rfl, hk⟩ := hk; exact ⟨n, rfl, hk⟩
      · cases h
    case h_3 => simp_all
    case h_4 s hu =>
      simp only [hu]
      split at h
      · rename_i hk; exact ⟨s, rfl, hk⟩
      · cases h
    case h_5 hu => simp only [hu]
    case h_6 hu => simp only [hu]
    case h_7 hu => simp only [hu]; exact ⟨none, 0, 0, rfl, Nat.le_refl _, Nat.zero_le _, .inl ⟨rfl, rfl, rfl⟩⟩
    case h_8 e a len cap hu =>
      simp only [hu]
      split at h
      · rename_i hk
        obtain ⟨_, h1, h2⟩ := hk
        refine ⟨some a, len, cap, rfl, h1, h2, .inr ⟨a, rfl, fun i hi => ?_⟩⟩
        simp only [Option.bind_eq_some_iff] at h
        obtain ⟨ys, hys, _⟩ := h
        obtain ⟨y, hy⟩ := mapM_some hys i (by simp [hi])
        simp only [Option.bind_eq_some_iff] at hy
        obtain ⟨vs, hvs, hy⟩ := hy
        obtain ⟨h3, h4⟩ := cells?_facts hvs
        exact ⟨vs, h3, fun j u hj => h4 j u hj, shp_of_trod fuel e vs y hy⟩
      · cases h
    case h_9 fs cs' hu =>
      simp only [hu]
      split at h
      · rename_i hl
        refine ⟨hl, fun x hx => ?_⟩
        simp only [Option.map_eq_some_iff] at h
        obtain ⟨ys, hys, _⟩ := h
        obtain ⟨y, hy⟩ := mapM_some hys x hx
        exact shp_of_trod fuel _ _ y hy
      · cases h
    case h_10 n e cs' hu =>
      simp only [hu]
      split at h
      · rename_i hl
        refine ⟨hl, fun i hi => ?_⟩
        simp only [Option.map_eq_some_iff] at h
        obtain ⟨ys, hys, _⟩ := h
        obtain ⟨y, hy⟩ := mapM_some hys i (by simp [hi])
        exact shp_of_trod fuel _ _ y hy
      · cases h
    all_goals first
      | (rename_i hu; simp only [hu])
      | simp_all
end
end Go.Sx
