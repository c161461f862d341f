import Derived.Test.YtmjpidjdbofdjaaYP
/- Sy, part Q: the rule for a region that draws its order, used; loops over a function. -/
set_option linter.unusedVariables false
set_option linter.unusedSimpArgs false
namespace Go.Sy
open Go
section
variable {P : Program} {T : List TI}
theorem parOk_eq {n : Nat} {ops : List Oper} (h : parOk n ops = true) : (dsts ops).Nodup ∧ edgesOk 0 ops = true ∧ ∀ d ∈ dsts ops, d < n := by
  unfold parOk at h
  split at h
  · cases h
  · rename_i hd
    split at h
    · rename_i he
      exact ⟨dups_eq hd, he, allBelow_eq h⟩
    · cases h
theorem Cd.par (hT : TabOk T P) (hm : P.follows .mixedOrders = true) {n id : Nat} {ro : Option Nat} {ops : Array Oper} {E : Env} {H : Hp} {K : Exit → Env → Hp → Prop} (hok : parOkG n ops.toList = true)
    (h : lf (eraseE (dsts ops.toList) E.ts) fun Em => vcText T P ops.toList Em E.ds ops.toList [] [H] H fun σ Hs H' => chkA T P ops.toList Em E.ds σ Hs (lf (fullE ops.toList σ Em) fun ts => K .normal ⟨ts, E.ds⟩ H')) :
    Cd P n ro (.region id ops true) E H K := by
  unfold parOkG at hok
  split at hok
  case h_2 => cases hok
  rename_i hpo
  obtain ⟨hnd, hed, hbl⟩ := parOk_eq hpo
  rw [lf_eq] at h
  obtain ⟨σ, Hs, H', g1, g2, g3, g4, g5, g6⟩ := vcText_upto hed ops.toList [] [H] H _ (by simp) (fun i => by simp) (by simp [stg]) (by simp [stg]) ⟨fun i o s H _ _ h => by simp at h, fun i o s H _ _ h => by simp at h⟩ h
  have g8' : (lf (fullE ops.toList σ (eraseE (dsts ops.toList) E.ts)) fun ts => K .normal ⟨ts, E.ds⟩ H') ∧ ∀ (i : Nat) (o : Oper) (s : SV), ops.toList[i]? = some o → effO o = false → reads o = true → σ[i]? = some s →
      ∀ (j : Nat) (H : Hp), Hs[j]? = some H → loOk ops.toList j (bnds o.after.toList) = true → hiOk ops.toList i j 0 ops.toList = true → stepQ T P ops.toList o ⟨depTs ops.toList σ (bnds o.after.toList) (eraseE (dsts ops.toList) E.ts), E.ds⟩ H (fun s' => s' = s) := by
    unfold chkA at g5
    split at g5
    · refine ⟨g5, fun i o s ho he hr hs j H1 hH1 _ _ => ?_⟩
      have hst : stg ops.toList i = j := by
        have hj := (List.getElem?_eq_some_iff.1 hH1).1
        have hi := stg_mono ops.toList (Nat.le_of_lt (List.getElem?_eq_some_iff.1 ho).1)
        simp only [List.length_singleton] at hj g2
        omega
      exact g6.quiet i o s H1 ho he hs (by rw [hst]; exact hH1) _ rfl
    · obtain ⟨g7, g8⟩ := chkI_elim g5
      exact ⟨g7, fun i o s ho he hr hs j H hH hl hh => g8 i o s ho he hr (by rw [Nat.zero_add]; exact hs) j H hH hl (by rw [Nat.zero_add]; exact hh)⟩
  obtain ⟨g7, g8⟩ := g8'
  rw [lf_eq] at g7
  have hH0 : Hs[0]? = some H := by
    obtain ⟨t, rfl⟩ := g4
    rfl
  refine ⟨fun b0 β a w R => wpIn_region_any hm ?_⟩
  refine par_anyG (Em := eraseE (dsts ops.toList) E.ts) (Ds := E.ds) (Hs := Hs) (σ := σ) (β0 := β) (H0 := H) (w0 := { w with drawn := w.drawn + 1 }) (n := n) (b0 := b0) hT hnd hed hbl hok (fun t s hts => (eraseE_get hts).2) (by simpa using g1) (by simpa using g2) g6 g8 ?_ ops.size ops.size _ a _ (by simp) (Nat.le_refl _) ?_
  · rintro listed a' w' I hall
    obtain ⟨β', j, H2, hH2, R', X', hD, hE, hef, hL⟩ := I.ex
    have hlt := (List.getElem?_eq_some_iff.1 hH2).1
    have hj : j = stg ops.toList ops.toList.length := by
      rcases Nat.lt_or_ge j (stg ops.toList ops.toList.length) with hl | hg
      · exfalso
        have : ∀ k, k ≤ ops.toList.length → stg ops.toList k ≤ j := by
          intro k
          induction k with
          | zero => intro _; simp [stg]
          | succ k ih =>
            intro hk
            have h1 := ih (by omega)
            have ho : ops.toList[k]? = some (ops.toList[k]'(by omega)) := List.getElem?_eq_getElem _
            rw [stg_succ ho]
            split
            · rename_i he
              have := (hef k _ ho he).1 (hall k (by have h3 : k < ops.toList.length := hk; simpa using h3))
              omega
            · exact h1
        have := this _ (Nat.le_refl _)
        omega
      · rw [g2] at hlt
        omega
    subst hj
    rw [g3] at hH2
    injection hH2 with hH2
    subst hH2
    refine ⟨β', ⟨fullE ops.toList σ (eraseE (dsts ops.toList) E.ts), E.ds⟩, H', ⟨R', I.size, hD, fun t s hts => ?_⟩, (Ext.drew β H w).trans X', g7⟩
    rcases fullE_get hts with ⟨k, o, hk, hd, hs⟩ | hts
    · exact hL k o s t hk (hall k (by have := (List.getElem?_eq_some_iff.1 hk).1; simpa using this)) hd hs
    · exact hE t s hts
  · have hrep : ∀ i : Nat, (Array.replicate ops.size false)[i]? ≠ some true := by
      intro i hi
      rw [Array.getElem?_replicate] at hi
      split at hi <;> cases hi
    refine ⟨⟨β, 0, H, hH0, R.rep.drew, Ext.refl _ _ _, R.defs.ext (Ext.drew β H w), fun t s hts => R.env t s (eraseE_get hts).1, fun i o _ _ => ⟨fun h => absurd h (hrep i), fun h => by cases h⟩, fun i o s d _ h => absurd h (hrep i)⟩, R.size, by simp, fun j o _ h => absurd h (hrep j)⟩
end
end Go.Sy

