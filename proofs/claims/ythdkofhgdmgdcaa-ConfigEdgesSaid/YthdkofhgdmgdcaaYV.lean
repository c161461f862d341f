import Derived.Test.YthdkofhgdmgdcaaYU
import Derived.WalkKit
import Derived.ProofKit
import Derived.OpenShut
import Derived.ShutString
import Derived.ChangeOld
import Derived.SizedLaws
import Derived.Carry
/- Sy, part V: from a contract to the rows' words; how arguments read. -/
set_option linter.unusedVariables false
set_option linter.unusedSimpArgs false
namespace Go.Sy
open Go Go.RowKit Go.ChangeShapes
/-- All that can be read in a world. -/
def allOf (w : World) : Addr → Option Value := fun a => w.cell? a
theorem Fc.calls {P : Program} {f : FuncId} {args : List SV} {w : World} {xs : List Value} {x : Value} (h : Fc P f args (.v x)) (hd : DenL ⟨[], allOf w⟩ args xs)
    (hf : ∃ fn, P.funcs[f]? = some fn ∧ fn.body.isSome = true ∧ (fn.name == "runtime.NumGoroutine") = false) :
    Calls P f xs.toArray w fun e w' => e = .returned x ∧ Below w.heap.size w w' := by
  have R : Rep ⟨[], allOf w⟩ ⟨0, [], []⟩ w := ⟨rfl, rfl, fun i cs b h => by simp at h, fun r hr => by simp at hr, by simp [owned], fun a v hg => ⟨hg, by simp [owned]⟩⟩
  rcases (h ⟨0, [], []⟩).run _ w xs R hd with ⟨_, h⟩ | ⟨y, w', h, _⟩
  · refine h.mono ?_
    rintro e w' ⟨y, rfl, r, H', β', h1, h2, h3, rfl, _⟩
    simp only [Den] at h1
    exact ⟨by rw [h1], ⟨h3.fr.os, h3.fr.tape, h3.fr.output, h3.fr.size, fun k hk => h3.fr.block k hk (by simp [owned])⟩⟩
  · obtain ⟨fn, hf, hb, hn⟩ := hf
    rw [run_callFunc hf hb hn] at h
    cases h

/-- How a value of a type lies in memory. -/
def Shp (P : Program) (g : Addr → Option Value) : Nat → TypeId → List Value → Prop
  | 0, _, _ => False
  | f + 1, t, cs => match P.underlying t with
    | some .bool => ∃ b, cs = [.bool b]
    | some (.int k) => ∃ n, cs = [.int k n] ∧ (Lit.int k n).wf = true
    | some .string => ∃ s, cs = [.string s] ∧ s.size ≤ maxLen
    | some (.struct fs) => cs.length = P.cellsOf t ∧ ∀ x ∈ fs.toList, Shp P g f x.type ((cs.drop x.offset).take (P.cellsOf x.type))
    | some (.array n e) => cs.length = P.cellsOf t ∧ ∀ i, i < n → Shp P g f e ((cs.drop (i * P.cellsOf e)).take (P.cellsOf e))
    | some (.slice e) => ∃ A n c, cs = [.slice A n c] ∧ n ≤ c ∧ c ≤ maxLen ∧ ((A = none ∧ n = 0 ∧ c = 0) ∨ ∃ a, A = some a ∧
        ∀ i, i < n → ∃ vs, vs.length = P.cellsOf e ∧ (∀ j u, vs[j]? = some u → g ((a.add (i * P.cellsOf e)).add j) = some u) ∧ Shp P g f e vs)
    | _ => True

section
variable {H : Type} {enc : TypeId × Value → H} {P : Program} {w : World}
theorem cells?_facts {base : Nat} {a : Addr} {n : Nat} {cs : List Value} (h : w.cells? base a n = some cs) : cs.length = n ∧ ∀ (j : Nat) (u : Value), cs[j]? = some u → w.cell? (a.add j) = some u := by
  unfold World.cells? at h
  split at h
  · have h1 : ∀ (l : List Nat) (cs : List Value), l.mapM (fun i => w.cell? (a.add i)) = some cs → cs.length = l.length ∧ ∀ (j i : Nat) (u : Value), l[j]? = some i → cs[j]? = some u → w.cell? (a.add i) = some u := by
      intro l
      induction l with
      | nil => intro cs h; simp at h; subst h; exact ⟨rfl, fun j i u h => by simp at h⟩
      | cons x l ih =>
        intro cs h
        simp only [List.mapM_cons, Option.bind_eq_bind, Option.bind_eq_some_iff] at h
        obtain ⟨y, hy, ys, hys, he⟩ := h
        injection he with he
        subst he
        obtain ⟨h2, h3⟩ := ih ys hys
        refine ⟨by simp [h2], fun j i u hj hu => ?_⟩
        cases j with
        | zero => simp at hj hu; subst hj; subst hu; exact hy
        | succ j => simp at hj hu; exact h3 j i u hj hu
    obtain ⟨h2, h3⟩ := h1 _ _ h
    refine ⟨by simpa using h2, fun j u hu => h3 j j u ?_ hu⟩
    have := (List.getElem?_eq_some_iff.1 hu).1
    rw [List.getElem?_range (by simpa [h2] using this)]
  · cases h
theorem mapM_some {α β : Type} {f : α → Option β} : ∀ {l : List α} {ys : List β}, l.mapM f = some ys → ∀ x ∈ l, ∃ y, f x = some y
  | [], _, _, x, hx => by simp at hx
  | a :: l, ys, h, x, hx => by
    simp only [List.mapM_cons, Option.bind_eq_bind, Option.bind_eq_some_iff] at h
    obtain ⟨y, hy, ys', hys, _⟩ := h
    rcases List.mem_cons.1 hx with rfl | hx
    · exact ⟨y, hy⟩
    · exact mapM_some hys x hx

theorem shp_of_trod {base : Nat} {spare : Nat → Bool} {held : Bool} : ∀ (fuel : Nat) (t : TypeId) (cs : List Value) (x : DataW H × List MemPlace), DataW.trod enc P w base spare held fuel t cs = some x → Shp P (allOf w) fuel t cs
  | 0, t, cs, x, h => by simp [DataW.trod] at h
  | fuel + 1, t, cs, x, h => by
    unfold DataW.trod at h
    unfold Shp
    split at h
    case h_1 b hu => simp only [hu]; exact ⟨b, rfl⟩
    case h_2 k k' n hu =>
      simp only [hu]
      split at h
      · rename_i hk; obtain ⟨rfl, hk⟩ := hk; exact ⟨n, rfl, hk⟩
      · cases h
    case h_3 => simp_all
    case h_4 s hu =>
      simp only [hu]
      split at h
      · rename_i hk; exact ⟨s, rfl, hk⟩
      · cases h
    case h_5 hu => simp only [hu]
    case h_6 hu => simp only [hu]
    case h_7 hu => simp only [hu]; exact ⟨none, 0, 0, rfl, Nat.le_refl _, Nat.zero_le _, .inl ⟨rfl, rfl, rfl⟩⟩
    case h_8 e a len cap hu =>
      simp only [hu]
      split at h
      · rename_i hk
        obtain ⟨_, h1, h2⟩ := hk
        refine ⟨some a, len, cap, rfl, h1, h2, .inr ⟨a, rfl, fun i hi => ?_⟩⟩
        simp only [Option.bind_eq_some_iff] at h
        obtain ⟨ys, hys, _⟩ := h
        obtain ⟨y, hy⟩ := mapM_some hys i (by simp [hi])
        simp only [Option.bind_eq_some_iff] at hy
        obtain ⟨vs, hvs, hy⟩ := hy
        obtain ⟨h3, h4⟩ := cells?_facts hvs
        exact ⟨vs, h3, fun j u hj => h4 j u hj, shp_of_trod fuel e vs y hy⟩
      · cases h
    case h_9 fs cs' hu =>
      simp only [hu]
      split at h
      · rename_i hl
        refine ⟨hl, fun x hx => ?_⟩
        simp only [Option.map_eq_some_iff] at h
        obtain ⟨ys, hys, _⟩ := h
        obtain ⟨y, hy⟩ := mapM_some hys x hx
        exact shp_of_trod fuel _ _ y hy
      · cases h
    case h_10 n e cs' hu =>
      simp only [hu]
      split at h
      · rename_i hl
        refine ⟨hl, fun i hi => ?_⟩
        simp only [Option.map_eq_some_iff] at h
        obtain ⟨ys, hys, _⟩ := h
        obtain ⟨y, hy⟩ := mapM_some hys i (by simp [hi])
        exact shp_of_trod fuel _ _ y hy
      · cases h
    all_goals first
      | (rename_i hu; simp only [hu])
      | simp_all
/-- How a value of a type is told. -/
def Opn (P : Program) (g : Addr → Option Value) (t : TypeId) {α : Type} (S : α → SV) : Prop :=
  ∀ (f : Nat) (cs : List Value), Shp P g f t cs → ∃ (x : α) (y : Value), Den ⟨[], g⟩ (S x) y ∧ y.cells.toList = cs ∧ ∀ u ∈ cs, u.oneCell' = true
theorem Opn.int {P : Program} {g : Addr → Option Value} {t : TypeId} {k : IntKind} (h : P.underlying t = some (.int k)) : Opn P g t fun n : Int => .v (.int k n) := by
  intro f cs hs
  cases f with
  | zero => exact hs.elim
  | succ f =>
    unfold Shp at hs
    rw [h] at hs
    obtain ⟨n, rfl, _⟩ := hs
    exact ⟨n, _, rfl, rfl, by simp [Value.oneCell']⟩
theorem Opn.bool {P : Program} {g : Addr → Option Value} {t : TypeId} (h : P.underlying t = some .bool) : Opn P g t fun b : Bool => .v (.bool b) := by
  intro f cs hs
  cases f with
  | zero => exact hs.elim
  | succ f =>
    unfold Shp at hs
    rw [h] at hs
    obtain ⟨b, rfl⟩ := hs
    exact ⟨b, _, rfl, rfl, by simp [Value.oneCell']⟩
theorem Opn.string {P : Program} {g : Addr → Option Value} {t : TypeId} (h : P.underlying t = some .string) : Opn P g t fun b : ByteArray => .v (.string b) := by
  intro f cs hs
  cases f with
  | zero => exact hs.elim
  | succ f =>
    unfold Shp at hs
    rw [h] at hs
    obtain ⟨b, rfl, _⟩ := hs
    exact ⟨b, _, rfl, rfl, by simp [Value.oneCell']⟩
theorem elems_of {P : Program} {g : Addr → Option Value} {e : TypeId} {α : Type} {S : α → SV} (he : Opn P g e S) {f sz : Nat} (hsz : P.cellsOf e = sz) {a : Addr} : ∀ (n : Nat), (∀ i, i < n → ∃ vs, vs.length = P.cellsOf e ∧ (∀ (j : Nat) (u : Value), vs[j]? = some u → g ((a.add (i * P.cellsOf e)).add j) = some u) ∧ Shp P g f e vs) →
    ∃ (l : List α) (ws : List Value), DenL ⟨[], g⟩ (l.map S) ws ∧ ws.length = n ∧ (∀ w ∈ ws, w.cells.size = sz) ∧ (∀ u ∈ cellsL ws, u.oneCell' = true) ∧ (cellsL ws).length = n * sz ∧ ∀ (j : Nat) (u : Value), (cellsL ws)[j]? = some u → g (a.add j) = some u
  | 0, _ => ⟨[], [], rfl, rfl, by simp, by simp [cellsL_nil], by simp [cellsL_nil], fun j u h => by simp [cellsL_nil] at h⟩
  | n + 1, h => by
    obtain ⟨l, ws, h1, h2, h3, h4, h5, h6⟩ := elems_of he hsz n fun i hi => h i (by omega)
    obtain ⟨vs, g1, g2, g3⟩ := h n (by omega)
    obtain ⟨x, y, g4, g5, g6⟩ := he f vs g3
    have hcl : cellsL (ws ++ [y]) = cellsL ws ++ vs := by rw [cellsL_append, cellsL_cons, cellsL_nil, g5]; simp
    refine ⟨l ++ [x], ws ++ [y], ?_, by simp [h2], fun w hw => ?_, fun u hu => ?_, ?_, fun j u hu => ?_⟩
    · rw [List.map_append]; exact h1.append ⟨y, [], g4, rfl, rfl⟩
    · rcases List.mem_append.1 hw with hw | hw
      · exact h3 w hw
      · simp at hw; subst hw
        have : w.cells.toList.length = sz := by rw [g5, g1, hsz]
        simpa using this
    · rw [hcl] at hu
      rcases List.mem_append.1 hu with hu | hu
      · exact h4 u hu
      · exact g6 u hu
    · rw [hcl, List.length_append, h5, g1, hsz, Nat.add_mul, Nat.one_mul]
    · rw [hcl] at hu
      rcases Nat.lt_or_ge j (n * sz) with hlt | hge
      · rw [List.getElem?_append_left (by omega)] at hu
        exact h6 j u hu
      · rw [List.getElem?_append_right (by omega), h5] at hu
        have := g2 _ u hu
        rw [hsz, add_add] at this
        rw [show n * sz + (j - n * sz) = j by omega] at this
        exact this
theorem Opn.slice {P : Program} {g : Addr → Option Value} {t e : TypeId} {α : Type} {S : α → SV} {sz : Nat} (h : P.underlying t = some (.slice e)) (he : Opn P g e S) (hsz : P.cellsOf e = sz) : Opn P g t fun l : List α => .lst false sz (l.map S) := by
  intro f cs hs
  cases f with
  | zero => exact hs.elim
  | succ f =>
    unfold Shp at hs
    rw [h] at hs
    obtain ⟨A, n, c, rfl, h1, h2, h3⟩ := hs
    refine h3.elim ?_ ?_
    · rintro ⟨rfl, rfl, rfl⟩
      exact ⟨[], .slice none 0 0, ⟨none, 0, 0, [], rfl, slOk_nil _ _ _, rfl⟩, rfl, by simp [Value.oneCell']⟩
    · rintro ⟨a, rfl, h9⟩
      obtain ⟨l, ws, g1, g2, g3, g4, g5, g6⟩ := elems_of he hsz n h9
      exact ⟨l, .slice (some a) n c, ⟨some a, n, c, ws, g1, ⟨g2, h1, h2, (fun e => by cases e), (fun e => by cases e), g3, g4, fun b hb j u hu => by injection hb with hb; subst hb; exact g6 j u hu⟩, rfl⟩, rfl, by simp [Value.oneCell']⟩
theorem opn_agg {g : Addr → Option Value} {l : List SV} {y : Value} {c : Array Value} (h : Den ⟨[], g⟩ (.agg l) y) (hc : y.cells.toList = (Value.agg c).cells.toList) : Den ⟨[], g⟩ (.agg l) (.agg c) := by
  obtain ⟨xs, h1, rfl⟩ := h
  have : xs = c.toList := by simpa [Value.cells] using hc
  subst this
  exact ⟨_, h1, by simp⟩
theorem opn_one {g : Addr → Option Value} {s : SV} {y x : Value} (h : Den ⟨[], g⟩ s y) (hc : y.cells.toList = [x]) (hn : one s = true) : Den ⟨[], g⟩ s x := by
  have h1 := one_cell hn h
  have : y.cells.toList = [y] := by
    cases y <;> first | rfl | (simp [Value.oneCell'] at h1)
  rw [this] at hc
  injection hc with hc _
  exact hc ▸ h
end
end Go.Sy

