import Derived.Test.YtmjpidjdbofdjaaGreatXc
import Derived.Test.YtmjpidjdbofdjaaGreatXd
import Derived.Test.YtmjpidjdbofdjaaGreatYG
/- Contracts: strings.Builder, of a writer's own. Contracts: a writer's String, WriteString, number, text. Contracts: a writer's text. Contracts: a writer's register, flags, counter. -/
set_option linter.unusedVariables false
set_option linter.unusedSimpArgs false
set_option maxRecDepth 100000
set_option maxHeartbeats 1600000
namespace Go.Proofs.YtmjpidjdbofdjaaGreat
open Go Go.Sy
def wrow (g : Nat) (p s : SV) : Row := ⟨some ⟨g, 0, none⟩, 1, 1, t_entry_writer, 2, [.agg [p, s]], false⟩
def bwp (g : Nat) : SV := .optr 0 ⟨g, 0, none⟩ 0
def bw0 (g : Nat) : List Row := [wrow g (.v (.pointer none)) (.v (.slice none 0 0))]
def bw (g : Nat) (s : ByteArray) (A : Option Addr) (c : Nat) : List Row := [wrow g (bwp g) (.own 1 A s.size c), ⟨A, s.size, c, t_uint8, 1, bytesSV s, false⟩]
theorem rowW {β : Gh} {nb : Nat} {boxes : List Bx} {g : Nat} {p s : SV} {rest : List Row} {w : World} (R : Rep β ⟨nb, boxes, wrow g p s :: rest⟩ w) (hp : ∀ x, Den β p x → x.cells.size = 1) :
    ∃ xp xs, Den β p xp ∧ Den β s xs ∧ w.heap[g]? = some (.cells #[xp, xs] t_entry_writer (0, 0)) := by
  obtain ⟨ws, h1, h2, h3, h4⟩ := R.row _ (List.mem_cons_self ..)
  simp only [wrow] at h1 h2 h3 h4
  obtain ⟨y, zs, ⟨l, hl, rfl⟩, hz, rfl⟩ := h1
  simp only [DenL] at hz
  subst hz
  obtain ⟨xp, l2, hxp, hl2, rfl⟩ := hl
  obtain ⟨xs, l3, hxs, hl3, rfl⟩ := hl2
  simp only [DenL] at hl3
  subst hl3
  refine ⟨xp, xs, hxp, hxs, ?_⟩
  obtain ⟨⟨g5, g6⟩, g7⟩ := h4
  rcases g6 with ⟨g6, _⟩ | ⟨g', cap, cur, e1, g8, g9, g10, g11, g12, g13⟩
  · cases g6
  · injection e1 with e1 e2 e3
    injection e1 with e1
    injection e1 with e1
    subst e1
    subst e3
    rw [g9]
    have hc : cur.toList = [xp, xs] := by
      have : cur.toList.length = 1 * 2 := by simpa using g12
      rw [List.take_of_length_le (by omega)] at g13
      rw [g13]
      rfl
    have : cur = #[xp, xs] := by apply Array.ext'; simpa using hc
    rw [this]
theorem heap_frz {w : World} {a : Addr} {n k : Nat} (h : k ≠ a.block) : (w.freeze a n).heap[k]? = w.heap[k]? := by
  unfold World.freeze
  split
  · rfl
  · simp only [Array.getElem?_modify]
    rw [if_neg (fun e => h e.symm)]
theorem t_cc_used (g nb : Nat) (boxes : List Bx) (s : SV) (rest : List Row) : Tr Tryz.prog n_strings_Builder_copyCheck [bwp g] ⟨nb, boxes, wrow g (bwp g) s :: rest⟩ fun r H' => r = .tup [] ∧ H' = ⟨nb, boxes, wrow g (bwp g) s :: rest⟩ := by
  refine ⟨fun β w xs R hd => .inl ⟨⟨_, q_strings_Builder_copyCheck, by kernel_rfl, by kernel_rfl⟩, ?_⟩⟩
  obtain ⟨y, zs, hy, hz, rfl⟩ := hd
  simp only [DenL] at hz
  subst hz
  simp only [bwp, Den] at hy
  rw [addrO] at hy
  subst hy
  obtain ⟨xp, xs, hxp, hxs, hh⟩ := rowW R (by rintro x ⟨⟩; rfl)
  simp only [bwp, Den] at hxp
  rw [addrO] at hxp
  subst hxp
  refine (cc_used g w (by simp [World.cell?, hh])).mono ?_
  rintro e w' ⟨rfl, rfl⟩
  exact ⟨_, rfl, .tup [], _, β, ⟨[], rfl, rfl⟩, R, Ext.refl _ _ _, rfl, rfl⟩
theorem t_cc_fresh (g nb : Nat) (boxes : List Bx) (s : SV) (hs : one s = true) (rest : List Row) : Tr Tryz.prog n_strings_Builder_copyCheck [bwp g] ⟨nb, boxes, wrow g (.v (.pointer none)) s :: rest⟩ fun r H' => r = .tup [] ∧ H' = ⟨nb, boxes, wrow g (bwp g) s :: rest⟩ := by
  refine ⟨fun β w xs R hd => .inl ⟨⟨_, q_strings_Builder_copyCheck, by kernel_rfl, by kernel_rfl⟩, ?_⟩⟩
  obtain ⟨y, zs, hy, hz, rfl⟩ := hd
  simp only [DenL] at hz
  subst hz
  have hy0 := hy
  simp only [bwp, Den] at hy
  rw [addrO] at hy
  subst hy
  obtain ⟨xp, xs, hxp, hxs, hh⟩ := rowW R (by rintro x ⟨⟩; rfl)
  simp only [Den] at hxp
  subst hxp
  refine (cc_fresh g w (by simp [World.cell?, hh]) (by simp [World.shape?, hh]) (by simp [World.frozen?, hh])).mono ?_
  rintro e w' ⟨rfl, rfl⟩
  have hlt := (Array.getElem?_eq_some_iff.1 hh).1
  have hset : (w.setCell ⟨g, 0, none⟩ (.pointer (some ⟨g, 0, none⟩))).heap[g]? = some (.cells #[.pointer (some ⟨g, 0, none⟩), xs] t_entry_writer (0, 0)) := by
    rw [heap_setCell_same w g 0 _ t_entry_writer _ hh]
    rfl
  have hxs1 := one_cell hs hxs
  have hxc : xs.cells = #[xs] := by
    cases xs <;> first | rfl | (simp [Value.oneCell'] at hxs1)
  obtain ⟨R', X'⟩ := R.rowSet (ri := 0) (r' := wrow g (bwp g) s) (w' := w.setCell ⟨g, 0, none⟩ (.pointer (some ⟨g, 0, none⟩))) rfl
    ⟨[.agg #[.pointer (some ⟨g, 0, none⟩), xs]], ⟨_, _, ⟨_, ⟨_, _, hy0, ⟨_, _, hxs, rfl, rfl⟩, rfl⟩, rfl⟩, rfl, by simp [addrO]⟩, by simp [wrow, Value.cells], rfl,
      ⟨⟨rfl, .inr ⟨g, 1, #[.pointer (some ⟨g, 0, none⟩), xs], rfl, Nat.zero_le _, hset, Nat.le_refl _, by decide, rfl, rfl⟩⟩, by
        intro u hu
        simp [cellsL, Value.cells] at hu
        rcases hu with rfl | rfl
        · rfl
        · exact hxs1⟩⟩
    ⟨rfl, rfl, rfl, by simp⟩ (fun k hk hne => heap_setCell_other w _ k _ (fun e => hne (by simp [wrow, Row.blk, e]))) (fun b hb => .inl hb)
  exact ⟨_, rfl, .tup [], _, β, ⟨[], rfl, rfl⟩, R', X', rfl, rfl⟩
end Go.Proofs.YtmjpidjdbofdjaaGreat
namespace Go.Proofs.YtmjpidjdbofdjaaGreat
open Go Go.Sy
theorem t_String (g : Nat) (s : ByteArray) (A : Option Addr) (c : Nat) (h0 : s.size ≠ 0) : Tr Tryz.prog n_strings_Builder_String [bwp g] ⟨0, [], bw g s A c⟩ fun r H' => r = ss s ∧ H' = ⟨0, [], []⟩ := by
  refine ⟨fun β w xs R hd => .inl ⟨⟨_, q_strings_Builder_String, by kernel_rfl, by kernel_rfl⟩, ?_⟩⟩
  obtain ⟨y, zs, hy, hz, rfl⟩ := hd
  simp only [DenL] at hz
  subst hz
  simp only [bwp, Den] at hy
  rw [addrO] at hy
  subst hy
  obtain ⟨xp, xs, hxp, hxs, hh⟩ := rowW R (by rintro x ⟨⟩; rfl)
  simp only [Den] at hxs
  subst hxs
  obtain ⟨ws, h1, h2, h3, h4⟩ := R.row ⟨A, s.size, c, t_uint8, 1, bytesSV s, false⟩ (by simp [bw])
  simp only at h1 h2 h3 h4
  have hw : ws = bytesV s := bytesSV_den h1
  subst hw
  obtain ⟨⟨g5, g6⟩, g7⟩ := h4
  rcases g6 with ⟨g6, g6'⟩ | ⟨g', cap, cur, e1, g8, g9, g10, g11, g12, g13⟩
  · exact absurd g6' h0
  injection e1 with e1 e2 e3
  subst e1
  subst e3
  have hb : cellsL (bytesV s) = Lib.byteCells s.data.toList := by
    rw [cellsL_bytes]; rfl
  have hsz : s.size = s.data.toList.length := by rw [Array.length_toList]; rfl
  have hne : s.data.toList.length ≠ 0 := by omega
  have hcell : ∀ (j : Nat) (v : Value), (Lib.byteCells s.data.toList)[j]? = some v → w.cell? ((⟨g', 0, none⟩ : Addr).add j) = some v := by
    intro j v hj
    rw [← hb] at hj
    exact World.ownsRow.cells (v := .slice (some ⟨g', 0, none⟩) s.size c) (n := s.size) (size := 1) (e := t_uint8) (base := 0) ⟨g5, .inr ⟨g', c, cur, rfl, g8, g9, g10, g11, g12, g13⟩⟩ (g := g') rfl j v hj
  refine (st_some g s.data.toList g' c xp cur t_entry_writer w (fun e => hne (by rw [e]; rfl)) (by rw [← hsz]; simp [World.cell?, hh]) g9 (by omega) g11 g12 hcell).mono ?_
  rintro e w' ⟨rfl, rfl⟩
  have hblk : ∀ k, k ≠ g' → (w.drew.freeze ⟨g', 0, none⟩ s.data.toList.length).heap[k]? = w.heap[k]? := fun k hk => heap_frz (w := w.drew) (a := ⟨g', 0, none⟩) hk
  have hos : (w.drew.freeze ⟨g', 0, none⟩ s.data.toList.length).os = w.os ∧ (w.drew.freeze ⟨g', 0, none⟩ s.data.toList.length).tape = w.tape ∧ (w.drew.freeze ⟨g', 0, none⟩ s.data.toList.length).output = w.output ∧ (w.drew.freeze ⟨g', 0, none⟩ s.data.toList.length).heap.size = w.heap.size := by
    unfold World.freeze
    split
    · exact ⟨rfl, rfl, rfl, rfl⟩
    · exact ⟨rfl, rfl, rfl, Array.size_modify⟩
  have hnil : β.b = [] := by have := R.len; simpa using this
  have hmem : g' ∈ owned β ⟨0, [], bw g s (some ⟨g', 0, none⟩) c⟩ := by simp [owned, bw, wrow, Row.blk]
  refine ⟨_, rfl, ss s, ⟨0, [], []⟩, β, rfl, ⟨by simp [hnil], rfl, fun i x b hi hb => by simp at hi, fun r hr => by simp at hr, by simp [owned, hnil], fun a v hg => ?_⟩, ⟨Gle.refl _, ⟨hos.1, hos.2.1, hos.2.2.1, by omega, fun k hk hn => hblk k (fun e => hn (e ▸ hmem))⟩, fun b hb => by simp [owned, hnil] at hb, fun a v hg => .inl hg⟩, rfl, rfl⟩
  obtain ⟨h5, h6⟩ := R.g a v hg
  refine ⟨?_, by simp [owned, hnil]⟩
  rw [World.cell?_of_block (w := w) (hblk a.block (fun e => h6 (e ▸ hmem)))]
  exact h5
theorem optW {o sz : Nat} {k : Nat → Nat → Prop} (m f : Nat) (e : o = m * sz + f) (h : k m f) : ∃ m f, o = m * sz + f ∧ k m f := ⟨m, f, e, h⟩
/-- What WriteString leaves behind. -/
def WS (g : Nat) (t : ByteArray) (r0 : SV) (r : SV) (X : List Row) : Prop := r = r0 ∧ ∃ A c, RowV A t.size c ∧ X = bw g t A c
theorem blwL_bytes (m : Nat) (t : ByteArray) : blwL m (bytesSV t) = true := blwL_map (fun _ => rfl) _
theorem blwR_bw (g : Nat) (t : ByteArray) (A : Option Addr) (c : Nat) : blwR 0 (bw g t A c) = true := by
  simp [bw, wrow, bwp, blwR, blwL, blw, blwL_bytes]
theorem bytesSV_app (a b : ByteArray) : bytesSV a ++ bytesSV b = bytesSV (a ++ b) := by simp [bytesSV, ByteArray.data_append]
theorem t_ws0 (g : Nat) (t : ByteArray) (ht : t.size ≤ 100000) : Tr Tryz.prog n_strings_Builder_WriteString [bwp g, ss t] ⟨0, [], bw0 g⟩ fun r H' => ∃ X rest, H'.rows = X ++ rest ∧ blw 0 r = true ∧ blwR 0 X = true ∧ WS g t (.tup [iv t.size, .v .nilIface]) r X := by
  refine Tr.of_body tabOk q_strings_Builder_WriteString (by kernel_rfl) ?_
  conv => whnf
  repeat' (first
    | (refine optW 0 1 rfl ?_; conv => whnf)
    | (refine Tr.thn (t_cc_fresh g 0 [] (.v (.slice none 0 0)) rfl []) ?_; conv => whnf)
    | (refine bltG (by first | omega | (simp only [List.length_map] at *; omega)) ?_; conv => whnf)
    | (refine ndG (by assumption) ?_; conv => whnf)
    | (refine mulG ?_; conv => whnf)
    | (refine And.intro rfl ?_; conv => whnf)
    | (refine dsT (by assumption) ?_; conv => whnf)
    | (refine dsF (by assumption) ?_; conv => whnf)
    | (refine nsT (by assumption) ?_; conv => whnf)
    | (refine nsF (by assumption) ?_; conv => whnf)
    | (refine bsT (by assumption) ?_; conv => whnf)
    | (refine bsF (by assumption) ?_; conv => whnf)
    | (refine dsp ?_ ?_ <;> intro _ <;> conv => whnf)
    | (refine nsp ?_ ?_ <;> intro _ <;> conv => whnf)
    | (refine cnd_true (by assumption) ?_; conv => whnf)
    | (refine cnd_false (by assumption) ?_; conv => whnf)
    | (refine cnd_split ?_ ?_ <;> intro _ <;> conv => whnf)
    | (refine Cd.par tabOk (by kernel_rfl) (by kernel_rfl) ?_; conv => whnf))
  refine And.intro ⟨by unfold maxLen; omega, by omega⟩ fun A c hrow => ?_
  conv => whnf
  repeat' (first
    | (refine optW 0 1 rfl ?_; conv => whnf)
    | (refine bltG (by first | omega | (simp only [List.length_map] at *; omega)) ?_; conv => whnf)
    | (refine ndG (by assumption) ?_; conv => whnf)
    | (refine mulG ?_; conv => whnf)
    | (refine And.intro rfl ?_; conv => whnf)
    | (refine dsT (by assumption) ?_; conv => whnf)
    | (refine dsF (by assumption) ?_; conv => whnf)
    | (refine nsT (by assumption) ?_; conv => whnf)
    | (refine nsF (by assumption) ?_; conv => whnf)
    | (refine bsT (by assumption) ?_; conv => whnf)
    | (refine bsF (by assumption) ?_; conv => whnf)
    | (refine dsp ?_ ?_ <;> intro _ <;> conv => whnf)
    | (refine nsp ?_ ?_ <;> intro _ <;> conv => whnf)
    | (refine cnd_true (by assumption) ?_; conv => whnf)
    | (refine cnd_false (by assumption) ?_; conv => whnf)
    | (refine cnd_split ?_ ?_ <;> intro _ <;> conv => whnf)
    | (refine Cd.par tabOk (by kernel_rfl) (by kernel_rfl) ?_; conv => whnf))
  exact ⟨bw g t A c, [], rfl, rfl, blwR_bw g t A c, rfl, A, c, hrow, rfl⟩
theorem t_ws (g : Nat) (s t : ByteArray) (A : Option Addr) (c : Nat) (hs : s.size ≤ 100000) (ht : t.size ≤ 100000) : Tr Tryz.prog n_strings_Builder_WriteString [bwp g, ss t] ⟨0, [], bw g s A c⟩ fun r H' => ∃ X rest, H'.rows = X ++ rest ∧ blw 0 r = true ∧ blwR 0 X = true ∧ WS g (s ++ t) (.tup [iv t.size, .v .nilIface]) r X := by
  refine Tr.of_body tabOk q_strings_Builder_WriteString (by kernel_rfl) ?_
  conv => whnf
  repeat' (first
    | (refine optW 0 1 rfl ?_; conv => whnf)
    | (refine Tr.thn (t_cc_used g 0 [] _ _) ?_; conv => whnf)
    | (refine bltG (by first | omega | (simp only [List.length_map] at *; omega)) ?_; conv => whnf)
    | (refine ndG (by assumption) ?_; conv => whnf)
    | (refine mulG ?_; conv => whnf)
    | (refine And.intro rfl ?_; conv => whnf)
    | (refine dsT (by assumption) ?_; conv => whnf)
    | (refine dsF (by assumption) ?_; conv => whnf)
    | (refine nsT (by assumption) ?_; conv => whnf)
    | (refine nsF (by assumption) ?_; conv => whnf)
    | (refine bsT (by assumption) ?_; conv => whnf)
    | (refine bsF (by assumption) ?_; conv => whnf)
    | (refine dsp ?_ ?_ <;> intro _ <;> conv => whnf)
    | (refine nsp ?_ ?_ <;> intro _ <;> conv => whnf)
    | (refine cnd_true (by assumption) ?_; conv => whnf)
    | (refine cnd_false (by assumption) ?_; conv => whnf)
    | (refine cnd_split ?_ ?_ <;> intro _ <;> conv => whnf)
    | (refine Cd.par tabOk (by kernel_rfl) (by kernel_rfl) ?_; conv => whnf))
  refine And.intro ⟨rfl, rfl, rfl, rfl, rfl, rfl, by unfold maxLen; omega, by omega⟩ fun A' c' hrow => ?_
  conv => whnf
  repeat' (first
    | (refine optW 0 1 rfl ?_; conv => whnf)
    | (refine bltG (by first | omega | (simp only [List.length_map] at *; omega)) ?_; conv => whnf)
    | (refine ndG (by assumption) ?_; conv => whnf)
    | (refine mulG ?_; conv => whnf)
    | (refine And.intro rfl ?_; conv => whnf)
    | (refine dsT (by assumption) ?_; conv => whnf)
    | (refine dsF (by assumption) ?_; conv => whnf)
    | (refine nsT (by assumption) ?_; conv => whnf)
    | (refine nsF (by assumption) ?_; conv => whnf)
    | (refine bsT (by assumption) ?_; conv => whnf)
    | (refine bsF (by assumption) ?_; conv => whnf)
    | (refine dsp ?_ ?_ <;> intro _ <;> conv => whnf)
    | (refine nsp ?_ ?_ <;> intro _ <;> conv => whnf)
    | (refine cnd_true (by assumption) ?_; conv => whnf)
    | (refine cnd_false (by assumption) ?_; conv => whnf)
    | (refine cnd_split ?_ ?_ <;> intro _ <;> conv => whnf)
    | (refine Cd.par tabOk (by kernel_rfl) (by kernel_rfl) ?_; conv => whnf))
  rw [bytesSV_app]
  exact ⟨bw g (s ++ t) A' c', [], by rw [← ByteArray.size_append]; rfl, rfl, blwR_bw g (s ++ t) A' c', rfl, A', c', by rw [ByteArray.size_append]; exact hrow, rfl⟩
theorem t_wsz (g : Nat) (s t : ByteArray) (A : Option Addr) (c : Nat) (z : Row) (hs : s.size ≤ 100000) (ht : t.size ≤ 100000) : Tr Tryz.prog n_strings_Builder_WriteString [bwp g, ss t] ⟨0, [], wrow g (bwp g) (.own 1 A s.size c) :: ⟨A, s.size, c, t_uint8, 1, bytesSV s, false⟩ :: [z]⟩ fun r H' => ∃ X rest, H'.rows = X ++ rest ∧ blw 0 r = true ∧ blwR 0 X = true ∧ WS g (s ++ t) (.tup [iv t.size, .v .nilIface]) r X := by
  refine Tr.of_body tabOk q_strings_Builder_WriteString (by kernel_rfl) ?_
  conv => whnf
  repeat' (first
    | (refine optW 0 1 rfl ?_; conv => whnf)
    | (refine Tr.thn (t_cc_used g 0 [] _ _) ?_; conv => whnf)
    | (refine bltG (by first | omega | (simp only [List.length_map] at *; omega)) ?_; conv => whnf)
    | (refine ndG (by assumption) ?_; conv => whnf)
    | (refine mulG ?_; conv => whnf)
    | (refine And.intro rfl ?_; conv => whnf)
    | (refine dsT (by assumption) ?_; conv => whnf)
    | (refine dsF (by assumption) ?_; conv => whnf)
    | (refine nsT (by assumption) ?_; conv => whnf)
    | (refine nsF (by assumption) ?_; conv => whnf)
    | (refine bsT (by assumption) ?_; conv => whnf)
    | (refine bsF (by assumption) ?_; conv => whnf)
    | (refine dsp ?_ ?_ <;> intro _ <;> conv => whnf)
    | (refine nsp ?_ ?_ <;> intro _ <;> conv => whnf)
    | (refine cnd_true (by assumption) ?_; conv => whnf)
    | (refine cnd_false (by assumption) ?_; conv => whnf)
    | (refine cnd_split ?_ ?_ <;> intro _ <;> conv => whnf)
    | (refine Cd.par tabOk (by kernel_rfl) (by kernel_rfl) ?_; conv => whnf))
  refine And.intro ⟨rfl, rfl, rfl, rfl, rfl, rfl, by unfold maxLen; omega, by omega⟩ fun A' c' hrow => ?_
  conv => whnf
  repeat' (first
    | (refine optW 0 1 rfl ?_; conv => whnf)
    | (refine bltG (by first | omega | (simp only [List.length_map] at *; omega)) ?_; conv => whnf)
    | (refine ndG (by assumption) ?_; conv => whnf)
    | (refine mulG ?_; conv => whnf)
    | (refine And.intro rfl ?_; conv => whnf)
    | (refine dsT (by assumption) ?_; conv => whnf)
    | (refine dsF (by assumption) ?_; conv => whnf)
    | (refine nsT (by assumption) ?_; conv => whnf)
    | (refine nsF (by assumption) ?_; conv => whnf)
    | (refine bsT (by assumption) ?_; conv => whnf)
    | (refine bsF (by assumption) ?_; conv => whnf)
    | (refine dsp ?_ ?_ <;> intro _ <;> conv => whnf)
    | (refine nsp ?_ ?_ <;> intro _ <;> conv => whnf)
    | (refine cnd_true (by assumption) ?_; conv => whnf)
    | (refine cnd_false (by assumption) ?_; conv => whnf)
    | (refine cnd_split ?_ ?_ <;> intro _ <;> conv => whnf)
    | (refine Cd.par tabOk (by kernel_rfl) (by kernel_rfl) ?_; conv => whnf))
  rw [bytesSV_app]
  exact ⟨bw g (s ++ t) A' c', [z], by rw [← ByteArray.size_append]; rfl, rfl, blwR_bw g (s ++ t) A' c', rfl, A', c', by rw [ByteArray.size_append]; exact hrow, rfl⟩
theorem t_Len (g : Nat) (s : ByteArray) (A : Option Addr) (c : Nat) (hs : s.size ≤ 100000) : Tr Tryz.prog n_strings_Builder_Len [bwp g] ⟨0, [], bw g s A c⟩ fun r H' => ∃ X rest, H'.rows = X ++ rest ∧ blw 0 r = true ∧ blwR 0 X = true ∧ (r = iv s.size ∧ X = bw g s A c) := by
  refine Tr.of_body tabOk q_strings_Builder_Len (by kernel_rfl) ?_
  conv => whnf
  repeat' (first
    | (refine optW 0 1 rfl ?_; conv => whnf)
    | (refine bltG (by first | omega | (simp only [List.length_map] at *; omega)) ?_; conv => whnf)
    | (refine ndG (by assumption) ?_; conv => whnf)
    | (refine mulG ?_; conv => whnf)
    | (refine And.intro rfl ?_; conv => whnf)
    | (refine dsT (by assumption) ?_; conv => whnf)
    | (refine dsF (by assumption) ?_; conv => whnf)
    | (refine nsT (by assumption) ?_; conv => whnf)
    | (refine nsF (by assumption) ?_; conv => whnf)
    | (refine bsT (by assumption) ?_; conv => whnf)
    | (refine bsF (by assumption) ?_; conv => whnf)
    | (refine dsp ?_ ?_ <;> intro _ <;> conv => whnf)
    | (refine nsp ?_ ?_ <;> intro _ <;> conv => whnf)
    | (refine cnd_true (by assumption) ?_; conv => whnf)
    | (refine cnd_false (by assumption) ?_; conv => whnf)
    | (refine cnd_split ?_ ?_ <;> intro _ <;> conv => whnf)
    | (refine Cd.par tabOk (by kernel_rfl) (by kernel_rfl) ?_; conv => whnf))
  exact ⟨bw g s A c, [], rfl, rfl, blwR_bw g s A c, rfl, rfl⟩
/-- A number's bytes, of a width; nothing where it has no room. -/
def num1 (n : Int) : ByteArray := if octOk1 n then octT1 n else ⟨#[]⟩
def num2 (n : Int) : ByteArray := if octOk2 n then octT2 n else ⟨#[]⟩
def num4 (n : Int) : ByteArray := if octOk n then octT n else ⟨#[]⟩
theorem num1_le (n : Int) : (num1 n).size ≤ 4 := by unfold num1; split; (rw [octT1_size]; omega); exact Nat.zero_le 4
theorem num2_le (n : Int) : (num2 n).size ≤ 4 := by unfold num2; split; (rw [octT2_size]; omega); exact Nat.zero_le 4
theorem num4_le (n : Int) : (num4 n).size ≤ 4 := by unfold num4; split; (rw [octT_size]; omega); exact Nat.zero_le 4
theorem t_num0 (g : Nat) (n : Int) (W : Int) (x : ByteArray) (e : Int) (hx : x.size ≤ 4) (hp : Fc Tryz.prog n_octet_Put [iv n, iv W] (.tup [ss x, iv e])) : Tr Tryz.prog n_entry_writer_number [bwp g, iv n, iv W] ⟨0, [], bw0 g⟩ fun r H' => ∃ X rest, H'.rows = X ++ rest ∧ blw 0 r = true ∧ blwR 0 X = true ∧ WS g x (.tup []) r X := by
  refine Tr.of_body tabOk q_entry_writer_number (by kernel_rfl) ?_
  conv => whnf
  repeat' (first
    | (refine bltG (by first | omega | (simp only [List.length_map] at *; omega)) ?_; conv => whnf)
    | (refine ndG (by assumption) ?_; conv => whnf)
    | (refine mulG ?_; conv => whnf)
    | (refine And.intro rfl ?_; conv => whnf)
    | (refine dsT (by assumption) ?_; conv => whnf)
    | (refine dsF (by assumption) ?_; conv => whnf)
    | (refine nsT (by assumption) ?_; conv => whnf)
    | (refine nsF (by assumption) ?_; conv => whnf)
    | (refine bsT (by assumption) ?_; conv => whnf)
    | (refine bsF (by assumption) ?_; conv => whnf)
    | (refine dsp ?_ ?_ <;> intro _ <;> conv => whnf)
    | (refine nsp ?_ ?_ <;> intro _ <;> conv => whnf)
    | (refine cnd_true (by assumption) ?_; conv => whnf)
    | (refine cnd_false (by assumption) ?_; conv => whnf)
    | (refine cnd_split ?_ ?_ <;> intro _ <;> conv => whnf)
    | (refine Cd.par tabOk (by kernel_rfl) (by kernel_rfl) ?_; conv => whnf)
    | (refine Fc.use (hp) ?_ ?_; (focus ((repeat' constructor); done)); conv => whnf)
    | (refine CallQ.of (hp) ?_ ?_; (focus ((repeat' constructor); done)); conv => whnf))
  refine Tr.mono (Tr.frameB (t_ws0 g x (by omega)) rfl rfl) ?_
  rintro r H' ⟨X, rfl, rfl, A', c', hrow, rfl⟩
  conv => whnf
  exact ⟨bw g x A' c', [], rfl, rfl, blwR_bw g x A' c', rfl, A', c', hrow, rfl⟩
theorem t_num (g : Nat) (s : ByteArray) (A : Option Addr) (c : Nat) (hs : s.size ≤ 10000) (n : Int) (W : Int) (x : ByteArray) (e : Int) (hx : x.size ≤ 4) (hp : Fc Tryz.prog n_octet_Put [iv n, iv W] (.tup [ss x, iv e])) : Tr Tryz.prog n_entry_writer_number [bwp g, iv n, iv W] ⟨0, [], bw g s A c⟩ fun r H' => ∃ X rest, H'.rows = X ++ rest ∧ blw 0 r = true ∧ blwR 0 X = true ∧ WS g (s ++ x) (.tup []) r X := by
  refine Tr.of_body tabOk q_entry_writer_number (by kernel_rfl) ?_
  conv => whnf
  repeat' (first
    | (refine bltG (by first | omega | (simp only [List.length_map] at *; omega)) ?_; conv => whnf)
    | (refine ndG (by assumption) ?_; conv => whnf)
    | (refine mulG ?_; conv => whnf)
    | (refine And.intro rfl ?_; conv => whnf)
    | (refine dsT (by assumption) ?_; conv => whnf)
    | (refine dsF (by assumption) ?_; conv => whnf)
    | (refine nsT (by assumption) ?_; conv => whnf)
    | (refine nsF (by assumption) ?_; conv => whnf)
    | (refine bsT (by assumption) ?_; conv => whnf)
    | (refine bsF (by assumption) ?_; conv => whnf)
    | (refine dsp ?_ ?_ <;> intro _ <;> conv => whnf)
    | (refine nsp ?_ ?_ <;> intro _ <;> conv => whnf)
    | (refine cnd_true (by assumption) ?_; conv => whnf)
    | (refine cnd_false (by assumption) ?_; conv => whnf)
    | (refine cnd_split ?_ ?_ <;> intro _ <;> conv => whnf)
    | (refine Cd.par tabOk (by kernel_rfl) (by kernel_rfl) ?_; conv => whnf)
    | (refine Fc.use (hp) ?_ ?_; (focus ((repeat' constructor); done)); conv => whnf)
    | (refine CallQ.of (hp) ?_ ?_; (focus ((repeat' constructor); done)); conv => whnf))
  refine Tr.mono (Tr.frameB (t_ws g s x A c (by omega) (by omega)) rfl (blwR_bw g s A c)) ?_
  rintro r H' ⟨X, rfl, rfl, A', c', hrow, rfl⟩
  conv => whnf
  exact ⟨bw g (s ++ x) A' c', [], rfl, rfl, blwR_bw g (s ++ x) A' c', rfl, A', c', hrow, rfl⟩
end Go.Proofs.YtmjpidjdbofdjaaGreat
namespace Go.Proofs.YtmjpidjdbofdjaaGreat
open Go Go.Sy
def zeros (n : Nat) : ByteArray := ⟨(List.replicate n (0 : UInt8)).toArray⟩
theorem zeros_size (n : Nat) : (zeros n).size = n := by show (List.replicate n (0 : UInt8)).toArray.size = n; simp
theorem zeros_sv (n : Nat) : List.replicate n (SV.v (.int .u8 0)) = bytesSV (zeros n) := by simp [bytesSV, zeros]
theorem wrap_i64' {n m : Int} (h : n = m) (h1 : -9223372036854775808 ≤ m) (h2 : m ≤ 9223372036854775807) : IntKind.wrap .i64 n = m := by subst h; exact wrap_i64 h1 h2
theorem nngW {z : Int} {m : Nat} {k : Nat → Prop} (h : z = (m : Int)) (hk : k m) : nng z k := by subst h; exact hk
theorem mkC {n c eb : Nat} {A B : Prop} {K : Nat → Prop} (h1 : n ≤ c) (h2 : c * eb ≤ 140737488355328) (h3 : c ≤ maxLen) (ha : A) (hb : B) (k : ∀ g : Nat, K g) : (n ≤ c ∧ c * eb ≤ 140737488355328 ∧ c ≤ maxLen ∧ A ∧ B) ∧ ∀ g, K g := ⟨⟨h1, h2, h3, ha, hb⟩, k⟩
theorem exB {es : List SV} {K : ByteArray → Prop} (s : ByteArray) (h : es = bytesSV s) (k : K s) : ∃ s, es = bytesSV s ∧ K s := ⟨s, h, k⟩
theorem wsK {f : FuncId} {args : List SV} {rows : List Row} {nb : Nat} {boxes : List Bx} {g : Nat} {t : ByteArray} {r0 : SV} {K : SV → Hp → Prop} (h : Tr Tryz.prog f args ⟨0, [], rows⟩ fun r H' => ∃ X rest, H'.rows = X ++ rest ∧ blw 0 r = true ∧ blwR 0 X = true ∧ WS g t r0 r X)
    (ha : blwL 0 args = true) (hr : blwR 0 rows = true) (k : ∀ A c, RowV A t.size c → K r0 ⟨nb, boxes, bw g t A c⟩) : Tr Tryz.prog f args ⟨nb, boxes, rows⟩ K := by
  refine Tr.mono (Tr.frameB h ha hr) ?_
  rintro r H' ⟨X, rfl, rfl, A', c', hrow, rfl⟩
  exact k A' c' hrow
theorem blwR_bwz (g : Nat) (t : ByteArray) (A : Option Addr) (c : Nat) (z : Row) (hz : blwL 0 z.es = true) : blwR 0 [wrow g (bwp g) (.own 1 A t.size c), ⟨A, t.size, c, t_uint8, 1, bytesSV t, false⟩, z] = true := by
  simp [wrow, bwp, blwR, blwL, blw, blwL_bytes, hz]
theorem t_text (g : Nat) (s : ByteArray) (A : Option Addr) (c : Nat) (hs : s.size ≤ 10000) (t : ByteArray) (n m : Nat) (ht : t.size ≤ n) (hn : n ≤ 100) (hm : n - t.size = m) : Tr Tryz.prog n_entry_writer_text [bwp g, ss t, iv n] ⟨0, [], bw g s A c⟩ fun r H' => ∃ X rest, H'.rows = X ++ rest ∧ blw 0 r = true ∧ blwR 0 X = true ∧ WS g (s ++ t ++ zeros m) (.tup []) r X := by
  have hw : IntKind.wrap .i64 ((n : Int) - (t.size : Int)) = (m : Int) := wrap_i64' (by omega) (by omega) (by omega)
  have hst : (s ++ t).size = s.size + t.size := ByteArray.size_append
  have hmx : m ≤ maxLen := by unfold maxLen; omega
  have hzs : (zeros m).size ≤ 100000 := by rw [zeros_size]; omega
  have hzb : blwL 0 (List.replicate m (SV.v (.int .u8 0))) = true := by rw [zeros_sv]; exact blwL_bytes 0 _
  refine Tr.of_body tabOk q_entry_writer_text (by kernel_rfl) ?_
  conv => whnf
  repeat' (first
    | (refine bltG (by first | omega | (simp only [List.length_map] at *; omega)) ?_; conv => whnf)
    | (refine ndG (by assumption) ?_; conv => whnf)
    | (refine mulG ?_; conv => whnf)
    | (refine And.intro rfl ?_; conv => whnf)
    | (refine dsT (by assumption) ?_; conv => whnf)
    | (refine dsF (by assumption) ?_; conv => whnf)
    | (refine nsT (by assumption) ?_; conv => whnf)
    | (refine nsF (by assumption) ?_; conv => whnf)
    | (refine bsT (by assumption) ?_; conv => whnf)
    | (refine bsF (by assumption) ?_; conv => whnf)
    | (refine dsp ?_ ?_ <;> intro _ <;> conv => whnf)
    | (refine nsp ?_ ?_ <;> intro _ <;> conv => whnf)
    | (refine cnd_true (by assumption) ?_; conv => whnf)
    | (refine cnd_false (by assumption) ?_; conv => whnf)
    | (refine cnd_split ?_ ?_ <;> intro _ <;> conv => whnf)
    | (refine Cd.par tabOk (by kernel_rfl) (by kernel_rfl) ?_; conv => whnf))
  refine wsK (t_ws g s t A c (by omega) (by omega)) rfl (blwR_bw g s A c) fun A' c' hrow => ?_
  conv => whnf
  refine Cd.parT tabOk (by kernel_rfl) [7, 9] (by kernel_rfl) ?_
  conv => whnf
  repeat' (first
    | (refine wsK (t_wsz g (s ++ t) (zeros m) A' c' _ (by omega) hzs) rfl (blwR_bwz _ _ _ _ _ hzb) fun A2 c2 hrow2 => ?_; conv => whnf)
    | (refine exB (zeros m) (zeros_sv m) ?_; conv => whnf)
    | (refine mkC (Nat.le_refl _) (by omega) hmx rfl rfl fun gz => ?_; conv => whnf)
    | (refine nngW hw ?_; conv => whnf)
    | (refine bltG (by first | omega | (simp only [List.length_map] at *; omega)) ?_; conv => whnf)
    | (refine ndG (by assumption) ?_; conv => whnf)
    | (refine mulG ?_; conv => whnf)
    | (refine And.intro rfl ?_; conv => whnf)
    | (refine dsT (by assumption) ?_; conv => whnf)
    | (refine dsF (by assumption) ?_; conv => whnf)
    | (refine nsT (by assumption) ?_; conv => whnf)
    | (refine nsF (by assumption) ?_; conv => whnf)
    | (refine bsT (by assumption) ?_; conv => whnf)
    | (refine bsF (by assumption) ?_; conv => whnf)
    | (refine dsp ?_ ?_ <;> intro _ <;> conv => whnf)
    | (refine nsp ?_ ?_ <;> intro _ <;> conv => whnf)
    | (refine cnd_true (by assumption) ?_; conv => whnf)
    | (refine cnd_false (by assumption) ?_; conv => whnf)
    | (refine cnd_split ?_ ?_ <;> intro _ <;> conv => whnf)
    | (refine Cd.par tabOk (by kernel_rfl) (by kernel_rfl) ?_; conv => whnf)
    | rfl
    | exact True.intro
    | (refine And.intro ?_ ?_ <;> conv => whnf))
  all_goals exact ⟨bw g (s ++ t ++ zeros m) A2 c2, [], rfl, rfl, blwR_bw g (s ++ t ++ zeros m) A2 c2, rfl, A2, c2, hrow2, rfl⟩
end Go.Proofs.YtmjpidjdbofdjaaGreat
namespace Go.Proofs.YtmjpidjdbofdjaaGreat
open Go Go.Sy
theorem wsR {f : FuncId} {args : List SV} {nb : Nat} {boxes : List Bx} {extra : List Row} {g : Nat} {s t : ByteArray} {A : Option Addr} {c : Nat} {r0 : SV} {K : SV → Hp → Prop} (h : Tr Tryz.prog f args ⟨0, [], bw g s A c⟩ fun r H' => ∃ X rest, H'.rows = X ++ rest ∧ blw 0 r = true ∧ blwR 0 X = true ∧ WS g t r0 r X)
    (ha : blwL 0 args = true) (k : ∀ A' c', RowV A' t.size c' → K r0 ⟨nb, boxes, wrow g (bwp g) (.own 1 A' t.size c') :: ⟨A', t.size, c', t_uint8, 1, bytesSV t, false⟩ :: extra⟩) :
    Tr Tryz.prog f args ⟨nb, boxes, wrow g (bwp g) (.own 1 A s.size c) :: ⟨A, s.size, c, t_uint8, 1, bytesSV s, false⟩ :: extra⟩ K := by
  refine Tr.mono (Tr.frameR (extra := extra) h ha (blwR_bw g s A c)) ?_
  rintro r H' ⟨X, rfl, rfl, A', c', hrow, rfl⟩
  exact k A' c' hrow
theorem p1 (n : Int) : Fc Tryz.prog n_octet_Put [iv n, iv 1] (.tup [ss (num1 n), iv (if octOk1 n then 0 else 1)]) := c_octet_Put1 n
theorem p2 (n : Int) : Fc Tryz.prog n_octet_Put [iv n, iv 2] (.tup [ss (num2 n), iv (if octOk2 n then 0 else 1)]) := c_octet_Put2 n
theorem p4 (n : Int) : Fc Tryz.prog n_octet_Put [iv n, iv 4] (.tup [ss (num4 n), iv (if octOk n then 0 else 1)]) := c_octet_Put n
def regT (s : ByteArray) (v : Val) : ByteArray := s ++ num4 v.time ++ num1 v.node ++ num1 (if v.dead = true then 1 else 0) ++ num1 v.text.size ++ v.text ++ zeros (8 - v.text.size)
theorem t_register (g : Nat) (s : ByteArray) (A : Option Addr) (c : Nat) (hs : s.size ≤ 1000) (v : Val) (ht : v.text.size ≤ 8) : Tr Tryz.prog n_entry_writer_register [bwp g, v.sv] ⟨0, [], bw g s A c⟩ fun r H' => ∃ X rest, H'.rows = X ++ rest ∧ blw 0 r = true ∧ blwR 0 X = true ∧ WS g (regT s v) (.tup []) r X := by
  have z1 := num4_le v.time
  have z2 := num1_le v.node
  have z3 := num1_le (if v.dead = true then 1 else 0)
  have z4 := num1_le (v.text.size : Int)
  have e1 : (s ++ num4 v.time).size = s.size + (num4 v.time).size := ByteArray.size_append
  have e2 : (s ++ num4 v.time ++ num1 v.node).size = (s ++ num4 v.time).size + (num1 v.node).size := ByteArray.size_append
  have e3 : (s ++ num4 v.time ++ num1 v.node ++ num1 (if v.dead = true then 1 else 0)).size = (s ++ num4 v.time ++ num1 v.node).size + (num1 (if v.dead = true then 1 else 0)).size := ByteArray.size_append
  have e4 : (s ++ num4 v.time ++ num1 v.node ++ num1 (if v.dead = true then 1 else 0) ++ num1 v.text.size).size = (s ++ num4 v.time ++ num1 v.node ++ num1 (if v.dead = true then 1 else 0)).size + (num1 v.text.size).size := ByteArray.size_append
  have body : ∀ b : Int, (b = if v.dead = true then 1 else 0) → ∀ A' c', RowV A' (s ++ num4 v.time ++ num1 v.node).size c' → Tr Tryz.prog n_entry_writer_number [bwp g, iv b, iv 1] ⟨0, [], bw g (s ++ num4 v.time ++ num1 v.node) A' c'⟩ fun r H' => ∃ X rest, H'.rows = X ++ rest ∧ blw 0 r = true ∧ blwR 0 X = true ∧ WS g (s ++ num4 v.time ++ num1 v.node ++ num1 (if v.dead = true then 1 else 0)) (.tup []) r X := by
    intro b hb A' c' hrow
    subst hb
    exact t_num g _ A' c' (by omega) _ 1 _ _ z3 (p1 _)
  rcases (by cases v.dead <;> simp : v.dead = true ∨ v.dead = false) with hd | hd
  all_goals
    refine Tr.of_body tabOk q_entry_writer_register (by kernel_rfl) ?_
    conv => whnf
    repeat' (first
      | (refine bltG (by first | omega | (simp only [List.length_map] at *; omega)) ?_; conv => whnf)
      | (refine ndG (by assumption) ?_; conv => whnf)
      | (refine mulG ?_; conv => whnf)
      | (refine And.intro rfl ?_; conv => whnf)
      | (refine dsT (by assumption) ?_; conv => whnf)
      | (refine dsF (by assumption) ?_; conv => whnf)
      | (refine nsT (by assumption) ?_; conv => whnf)
      | (refine nsF (by assumption) ?_; conv => whnf)
      | (refine bsT (by assumption) ?_; conv => whnf)
      | (refine bsF (by assumption) ?_; conv => whnf)
      | (refine dsp ?_ ?_ <;> intro _ <;> conv => whnf)
      | (refine nsp ?_ ?_ <;> intro _ <;> conv => whnf)
      | (refine cnd_true (by assumption) ?_; conv => whnf)
      | (refine cnd_false (by assumption) ?_; conv => whnf)
      | (refine cnd_split ?_ ?_ <;> intro _ <;> conv => whnf)
      | (refine Cd.par tabOk (by kernel_rfl) (by kernel_rfl) ?_; conv => whnf))
    refine wsR (t_num g s A c (by omega) v.time 4 _ _ z1 (p4 _)) rfl fun A1 c1 h1 => ?_
    conv => whnf
    refine wsR (t_num g _ A1 c1 (by omega) v.node 1 _ _ z2 (p1 _)) rfl fun A2 c2 h2 => ?_
    conv => whnf
    repeat' (first
      | (refine bltG (by first | omega | (simp only [List.length_map] at *; omega)) ?_; conv => whnf)
      | (refine ndG (by assumption) ?_; conv => whnf)
      | (refine mulG ?_; conv => whnf)
      | (refine And.intro rfl ?_; conv => whnf)
      | (refine dsT (by assumption) ?_; conv => whnf)
      | (refine dsF (by assumption) ?_; conv => whnf)
      | (refine nsT (by assumption) ?_; conv => whnf)
      | (refine nsF (by assumption) ?_; conv => whnf)
      | (refine bsT (by assumption) ?_; conv => whnf)
      | (refine bsF (by assumption) ?_; conv => whnf)
      | (refine dsp ?_ ?_ <;> intro _ <;> conv => whnf)
      | (refine nsp ?_ ?_ <;> intro _ <;> conv => whnf)
      | (refine cnd_true (by assumption) ?_; conv => whnf)
      | (refine cnd_false (by assumption) ?_; conv => whnf)
      | (refine cnd_split ?_ ?_ <;> intro _ <;> conv => whnf)
      | (refine Cd.par tabOk (by kernel_rfl) (by kernel_rfl) ?_; conv => whnf))
    refine wsR (body _ (by simp [hd]) A2 c2 h2) rfl fun A3 c3 h3 => ?_
    conv => whnf
    repeat' (first
      | (refine bltG (by first | omega | (simp only [List.length_map] at *; omega)) ?_; conv => whnf)
      | (refine ndG (by assumption) ?_; conv => whnf)
      | (refine mulG ?_; conv => whnf)
      | (refine And.intro rfl ?_; conv => whnf)
      | (refine dsT (by assumption) ?_; conv => whnf)
      | (refine dsF (by assumption) ?_; conv => whnf)
      | (refine nsT (by assumption) ?_; conv => whnf)
      | (refine nsF (by assumption) ?_; conv => whnf)
      | (refine bsT (by assumption) ?_; conv => whnf)
      | (refine bsF (by assumption) ?_; conv => whnf)
      | (refine dsp ?_ ?_ <;> intro _ <;> conv => whnf)
      | (refine nsp ?_ ?_ <;> intro _ <;> conv => whnf)
      | (refine cnd_true (by assumption) ?_; conv => whnf)
      | (refine cnd_false (by assumption) ?_; conv => whnf)
      | (refine cnd_split ?_ ?_ <;> intro _ <;> conv => whnf)
      | (refine Cd.par tabOk (by kernel_rfl) (by kernel_rfl) ?_; conv => whnf))
    refine wsR (t_num g _ A3 c3 (by omega) v.text.size 1 _ _ z4 (p1 _)) rfl fun A4 c4 h4 => ?_
    conv => whnf
    refine wsR (t_text g _ A4 c4 (by omega) v.text 8 (8 - v.text.size) ht (by omega) rfl) rfl fun A5 c5 h5 => ?_
    conv => whnf
    exact ⟨bw g (regT s v) A5 c5, [], rfl, rfl, blwR_bw g _ A5 c5, rfl, A5, c5, h5, rfl⟩
def fl1 (v : Val) : Int := IntKind.wrap .i64 (bitI .and .u64 v.flags 4294967295)
def fl2 (v : Val) : Int := IntKind.wrap .i64 (v.flags.fdiv (2 ^ (min 32 IntKind.u64.bits)))
def flagT (s : ByteArray) (v : Val) : ByteArray := s ++ num4 (fl1 v) ++ num4 (fl2 v)
theorem t_flags (g : Nat) (s : ByteArray) (A : Option Addr) (c : Nat) (hs : s.size ≤ 1000) (v : Val) : Tr Tryz.prog n_entry_writer_flags [bwp g, v.sv] ⟨0, [], bw g s A c⟩ fun r H' => ∃ X rest, H'.rows = X ++ rest ∧ blw 0 r = true ∧ blwR 0 X = true ∧ WS g (flagT s v) (.tup []) r X := by
  have z1 := num4_le (fl1 v)
  have z2 := num4_le (fl2 v)
  have e1 : (s ++ num4 (fl1 v)).size = s.size + (num4 (fl1 v)).size := ByteArray.size_append
  refine Tr.of_body tabOk q_entry_writer_flags (by kernel_rfl) ?_
  conv => whnf
  repeat' (first
    | (refine bltG (by first | omega | (simp only [List.length_map] at *; omega)) ?_; conv => whnf)
    | (refine ndG (by assumption) ?_; conv => whnf)
    | (refine mulG ?_; conv => whnf)
    | (refine And.intro rfl ?_; conv => whnf)
    | (refine dsT (by assumption) ?_; conv => whnf)
    | (refine dsF (by assumption) ?_; conv => whnf)
    | (refine nsT (by assumption) ?_; conv => whnf)
    | (refine nsF (by assumption) ?_; conv => whnf)
    | (refine bsT (by assumption) ?_; conv => whnf)
    | (refine bsF (by assumption) ?_; conv => whnf)
    | (refine dsp ?_ ?_ <;> intro _ <;> conv => whnf)
    | (refine nsp ?_ ?_ <;> intro _ <;> conv => whnf)
    | (refine cnd_true (by assumption) ?_; conv => whnf)
    | (refine cnd_false (by assumption) ?_; conv => whnf)
    | (refine cnd_split ?_ ?_ <;> intro _ <;> conv => whnf)
    | (refine Cd.par tabOk (by kernel_rfl) (by kernel_rfl) ?_; conv => whnf))
  refine wsR (t_num g s A c (by omega) (fl1 v) 4 _ _ z1 (p4 _)) rfl fun A1 c1 h1 => ?_
  conv => whnf
  repeat' (first
    | (refine bltG (by first | omega | (simp only [List.length_map] at *; omega)) ?_; conv => whnf)
    | (refine ndG (by assumption) ?_; conv => whnf)
    | (refine mulG ?_; conv => whnf)
    | (refine And.intro rfl ?_; conv => whnf)
    | (refine dsT (by assumption) ?_; conv => whnf)
    | (refine dsF (by assumption) ?_; conv => whnf)
    | (refine nsT (by assumption) ?_; conv => whnf)
    | (refine nsF (by assumption) ?_; conv => whnf)
    | (refine bsT (by assumption) ?_; conv => whnf)
    | (refine bsF (by assumption) ?_; conv => whnf)
    | (refine dsp ?_ ?_ <;> intro _ <;> conv => whnf)
    | (refine nsp ?_ ?_ <;> intro _ <;> conv => whnf)
    | (refine cnd_true (by assumption) ?_; conv => whnf)
    | (refine cnd_false (by assumption) ?_; conv => whnf)
    | (refine cnd_split ?_ ?_ <;> intro _ <;> conv => whnf)
    | (refine Cd.par tabOk (by kernel_rfl) (by kernel_rfl) ?_; conv => whnf))
  refine wsR (t_num g _ A1 c1 (by omega) (fl2 v) 4 _ _ z2 (p4 _)) rfl fun A2 c2 h2 => ?_
  conv => whnf
  exact ⟨bw g (flagT s v) A2 c2, [], rfl, rfl, blwR_bw g _ A2 c2, rfl, A2, c2, h2, rfl⟩
end Go.Proofs.YtmjpidjdbofdjaaGreat

