import Derived.Test.YtmjpidjdbofdjaaGreatXh
/- Contracts: a writer's counter. Contracts: entry.Put. -/
set_option linter.unusedVariables false
set_option linter.unusedSimpArgs false
set_option maxRecDepth 100000
set_option maxHeartbeats 1600000
namespace Go.Proofs.YtmjpidjdbofdjaaGreat
open Go Go.Sy
/-- Numbers of a list, so many, behind a text. -/
def cl (s : ByteArray) (l : List Int) (i : Nat) : ByteArray := (l.take i).foldl (fun s n => s ++ num2 n) s
theorem cl_succ {s : ByteArray} {l : List Int} {i : Nat} {x : Int} (h : l[i]? = some x) : cl s l (i + 1) = cl s l i ++ num2 x := by
  unfold cl; rw [List.take_add_one, h]; simp
theorem cl_size (s : ByteArray) (l : List Int) : ∀ i, (cl s l i).size ≤ s.size + 4 * i
  | 0 => by simp [cl]
  | i + 1 => by
    have ih := cl_size s l i
    rcases Nat.lt_or_ge i l.length with hi | hi
    · rw [cl_succ (List.getElem?_eq_getElem hi), ByteArray.size_append]
      have := num2_le l[i]
      omega
    · have : cl s l (i + 1) = cl s l i := by unfold cl; rw [List.take_of_length_le (by omega), List.take_of_length_le (by omega)]
      rw [this]; omega
def cntT (s : ByteArray) (v : Val) : ByteArray := cl (cl s v.plus v.plus.length) v.minus v.minus.length
theorem t_counter (g : Nat) (s : ByteArray) (A0 : Option Addr) (c0 : Nat) (hr0 : RowV A0 s.size c0) (hs : s.size ≤ 1000) (v : Val) (hp : v.plus.length ≤ 40) (hm : v.minus.length ≤ 40) : Tr Tryz.prog n_entry_writer_counter [bwp g, v.sv] ⟨0, [], bw g s A0 c0⟩ fun r H' => ∃ X rest, H'.rows = X ++ rest ∧ blw 0 r = true ∧ blwR 0 X = true ∧ WS g (cntT s v) (.tup []) r X := by
  have b1 := cl_size s v.plus v.plus.length
  have b2 := cl_size (cl s v.plus v.plus.length) v.minus v.minus.length
  refine Tr.of_body tabOk q_entry_writer_counter (by kernel_rfl) ?_
  conv => whnf
  repeat' (first
    | (refine bltG (by first | omega | (simp only [List.length_map] at *; omega)) ?_; conv => whnf)
    | (refine ndG (by assumption) ?_; conv => whnf)
    | (refine mulG ?_; conv => whnf)
    | (refine And.intro rfl ?_; conv => whnf)
    | (refine dsT (by assumption) ?_; conv => whnf)
    | (refine dsF (by assumption) ?_; conv => whnf)
    | (refine nsT (by assumption) ?_; conv => whnf)
    | (refine nsF (by assumption) ?_; conv => whnf)
    | (refine bsT (by assumption) ?_; conv => whnf)
    | (refine bsF (by assumption) ?_; conv => whnf)
    | (refine dsp ?_ ?_ <;> intro _ <;> conv => whnf)
    | (refine nsp ?_ ?_ <;> intro _ <;> conv => whnf)
    | (refine cnd_true (by assumption) ?_; conv => whnf)
    | (refine cnd_false (by assumption) ?_; conv => whnf)
    | (refine cnd_split ?_ ?_ <;> intro _ <;> conv => whnf)
    | (refine Cd.par tabOk (by kernel_rfl) (by kernel_rfl) ?_; conv => whnf))
  refine Cd.unroll tabOk 3 ?_
  conv => whnf
  repeat' (first
    | (refine bltG (by first | omega | (simp only [List.length_map] at *; omega)) ?_; conv => whnf)
    | (refine ndG (by assumption) ?_; conv => whnf)
    | (refine mulG ?_; conv => whnf)
    | (refine And.intro rfl ?_; conv => whnf)
    | (refine dsT (by assumption) ?_; conv => whnf)
    | (refine dsF (by assumption) ?_; conv => whnf)
    | (refine nsT (by assumption) ?_; conv => whnf)
    | (refine nsF (by assumption) ?_; conv => whnf)
    | (refine bsT (by assumption) ?_; conv => whnf)
    | (refine bsF (by assumption) ?_; conv => whnf)
    | (refine dsp ?_ ?_ <;> intro _ <;> conv => whnf)
    | (refine nsp ?_ ?_ <;> intro _ <;> conv => whnf)
    | (refine cnd_true (by assumption) ?_; conv => whnf)
    | (refine cnd_false (by assumption) ?_; conv => whnf)
    | (refine cnd_split ?_ ?_ <;> intro _ <;> conv => whnf)
    | (refine Cd.par tabOk (by kernel_rfl) (by kernel_rfl) ?_; conv => whnf))
  refine loopP tabOk (fun q : Nat × Option Addr × Nat => q.1 ≤ v.plus.length ∧ RowV q.2.1 (cl s v.plus q.1).size q.2.2) (fun q => ⟨[(20, iv q.1), (19, iv (v.plus.map iv).length), (18, ints v.plus), (14, iv 0), (13, iv 2), (12, .lst true 1 [ints v.plus, ints v.minus]), (0, bwp g)], []⟩)
    (fun q => ⟨1, [.c [iv v.kind, iv v.time, iv v.node, sb v.dead, ss v.text, ints v.plus, ints v.minus, .v (.int .u64 v.flags)]], bw g (cl s v.plus q.1) q.2.1 q.2.2⟩) (fun q => v.plus.length - q.1) (0, A0, c0) ⟨Nat.zero_le _, hr0⟩ (by repeat' constructor) (fun _ => rfl) ?_
  rintro ⟨i, A', c'⟩ ⟨hi, hrow⟩
  dsimp only at hi hrow
  have hsz := cl_size s v.plus i
  conv => whnf
  refine dsp ?_ ?_ <;> intro hlt <;> (simp only [List.length_map] at hlt) <;> conv => whnf
  · obtain ⟨x, hx⟩ : ∃ x, v.plus[i]? = some x := ⟨_, List.getElem?_eq_getElem (by omega)⟩
    have hc := cl_succ (s := s) hx
    have hn : Tr Tryz.prog n_entry_writer_number [bwp g, iv x, iv 2] ⟨0, [], bw g (cl s v.plus i) A' c'⟩ fun r H' => ∃ X rest, H'.rows = X ++ rest ∧ blw 0 r = true ∧ blwR 0 X = true ∧ WS g (cl s v.plus (i + 1)) (.tup []) r X := by
      rw [hc]; exact t_num g _ A' c' (by omega) x 2 _ _ (num2_le x) (p2 x)
    clear hc
    repeat' (first
      | (refine bltG (by first | omega | (simp only [List.length_map] at *; omega)) ?_; conv => whnf)
      | (refine ndG (by assumption) ?_; conv => whnf)
      | (refine mulG ?_; conv => whnf)
      | (refine And.intro rfl ?_; conv => whnf)
      | (refine dsT (by assumption) ?_; conv => whnf)
      | (refine dsF (by assumption) ?_; conv => whnf)
      | (refine nsT (by assumption) ?_; conv => whnf)
      | (refine nsF (by assumption) ?_; conv => whnf)
      | (refine bsT (by assumption) ?_; conv => whnf)
      | (refine bsF (by assumption) ?_; conv => whnf)
      | (refine dsp ?_ ?_ <;> intro _ <;> conv => whnf)
      | (refine nsp ?_ ?_ <;> intro _ <;> conv => whnf)
      | (refine cnd_true (by assumption) ?_; conv => whnf)
      | (refine cnd_false (by assumption) ?_; conv => whnf)
      | (refine cnd_split ?_ ?_ <;> intro _ <;> conv => whnf)
      | (refine Cd.par tabOk (by kernel_rfl) (by kernel_rfl) ?_; conv => whnf))
    refine wsR hn rfl fun A2 c2 h2 => ?_
    conv => whnf
    refine ⟨(i + 1, A2, c2), ⟨by show i + 1 ≤ _; omega, h2⟩, ?_, ?_⟩
    · first | omega | (simp only [List.length_map] at *; omega)
    · (repeat' constructor) <;> first | (refine ivW ?_ ?_ ?_ <;> first | omega | (dsimp only; omega))
  · obtain rfl : i = v.plus.length := by omega
    clear hlt hsz
    repeat' (first
      | (refine bltG (by first | omega | (simp only [List.length_map] at *; omega)) ?_; conv => whnf)
      | (refine ndG (by assumption) ?_; conv => whnf)
      | (refine mulG ?_; conv => whnf)
      | (refine And.intro rfl ?_; conv => whnf)
      | (refine dsT (by assumption) ?_; conv => whnf)
      | (refine dsF (by assumption) ?_; conv => whnf)
      | (refine nsT (by assumption) ?_; conv => whnf)
      | (refine nsF (by assumption) ?_; conv => whnf)
      | (refine bsT (by assumption) ?_; conv => whnf)
      | (refine bsF (by assumption) ?_; conv => whnf)
      | (refine dsp ?_ ?_ <;> intro _ <;> conv => whnf)
      | (refine nsp ?_ ?_ <;> intro _ <;> conv => whnf)
      | (refine cnd_true (by assumption) ?_; conv => whnf)
      | (refine cnd_false (by assumption) ?_; conv => whnf)
      | (refine cnd_split ?_ ?_ <;> intro _ <;> conv => whnf)
      | (refine Cd.par tabOk (by kernel_rfl) (by kernel_rfl) ?_; conv => whnf))
    refine loopP tabOk (fun q : Nat × Option Addr × Nat => q.1 ≤ v.minus.length ∧ RowV q.2.1 (cl (cl s v.plus v.plus.length) v.minus q.1).size q.2.2) (fun q => ⟨[(20, iv q.1), (19, iv (v.minus.map iv).length), (18, ints v.minus), (14, iv 1), (13, iv 2), (12, .lst true 1 [ints v.plus, ints v.minus]), (0, bwp g)], []⟩)
      (fun q => ⟨1, [.c [iv v.kind, iv v.time, iv v.node, sb v.dead, ss v.text, ints v.plus, ints v.minus, .v (.int .u64 v.flags)]], bw g (cl (cl s v.plus v.plus.length) v.minus q.1) q.2.1 q.2.2⟩) (fun q => v.minus.length - q.1) (0, A', c') ⟨Nat.zero_le _, hrow⟩ (by repeat' constructor) (fun _ => rfl) ?_
    rintro ⟨i, A', c'⟩ ⟨hi, hrow⟩
    dsimp only at hi hrow
    have hsz := cl_size (cl s v.plus v.plus.length) v.minus i
    conv => whnf
    refine dsp ?_ ?_ <;> intro hlt <;> (simp only [List.length_map] at hlt) <;> conv => whnf
    · obtain ⟨x, hx⟩ : ∃ x, v.minus[i]? = some x := ⟨_, List.getElem?_eq_getElem (by omega)⟩
      have hc := cl_succ (s := (cl s v.plus v.plus.length)) hx
      have hn : Tr Tryz.prog n_entry_writer_number [bwp g, iv x, iv 2] ⟨0, [], bw g (cl (cl s v.plus v.plus.length) v.minus i) A' c'⟩ fun r H' => ∃ X rest, H'.rows = X ++ rest ∧ blw 0 r = true ∧ blwR 0 X = true ∧ WS g (cl (cl s v.plus v.plus.length) v.minus (i + 1)) (.tup []) r X := by
        rw [hc]; exact t_num g _ A' c' (by omega) x 2 _ _ (num2_le x) (p2 x)
      clear hc
      repeat' (first
        | (refine bltG (by first | omega | (simp only [List.length_map] at *; omega)) ?_; conv => whnf)
        | (refine ndG (by assumption) ?_; conv => whnf)
        | (refine mulG ?_; conv => whnf)
        | (refine And.intro rfl ?_; conv => whnf)
        | (refine dsT (by assumption) ?_; conv => whnf)
        | (refine dsF (by assumption) ?_; conv => whnf)
        | (refine nsT (by assumption) ?_; conv => whnf)
        | (refine nsF (by assumption) ?_; conv => whnf)
        | (refine bsT (by assumption) ?_; conv => whnf)
        | (refine bsF (by assumption) ?_; conv => whnf)
        | (refine dsp ?_ ?_ <;> intro _ <;> conv => whnf)
        | (refine nsp ?_ ?_ <;> intro _ <;> conv => whnf)
        | (refine cnd_true (by assumption) ?_; conv => whnf)
        | (refine cnd_false (by assumption) ?_; conv => whnf)
        | (refine cnd_split ?_ ?_ <;> intro _ <;> conv => whnf)
        | (refine Cd.par tabOk (by kernel_rfl) (by kernel_rfl) ?_; conv => whnf))
      refine wsR hn rfl fun A2 c2 h2 => ?_
      conv => whnf
      refine ⟨(i + 1, A2, c2), ⟨by show i + 1 ≤ _; omega, h2⟩, ?_, ?_⟩
      · first | omega | (simp only [List.length_map] at *; omega)
      · (repeat' constructor) <;> first | (refine ivW ?_ ?_ ?_ <;> first | omega | (dsimp only; omega))
    · obtain rfl : i = v.minus.length := by omega
      clear hlt hsz
      repeat' (first
        | (refine bltG (by first | omega | (simp only [List.length_map] at *; omega)) ?_; conv => whnf)
        | (refine ndG (by assumption) ?_; conv => whnf)
        | (refine mulG ?_; conv => whnf)
        | (refine And.intro rfl ?_; conv => whnf)
        | (refine dsT (by assumption) ?_; conv => whnf)
        | (refine dsF (by assumption) ?_; conv => whnf)
        | (refine nsT (by assumption) ?_; conv => whnf)
        | (refine nsF (by assumption) ?_; conv => whnf)
        | (refine bsT (by assumption) ?_; conv => whnf)
        | (refine bsF (by assumption) ?_; conv => whnf)
        | (refine dsp ?_ ?_ <;> intro _ <;> conv => whnf)
        | (refine nsp ?_ ?_ <;> intro _ <;> conv => whnf)
        | (refine cnd_true (by assumption) ?_; conv => whnf)
        | (refine cnd_false (by assumption) ?_; conv => whnf)
        | (refine cnd_split ?_ ?_ <;> intro _ <;> conv => whnf)
        | (refine Cd.par tabOk (by kernel_rfl) (by kernel_rfl) ?_; conv => whnf))
      exact ⟨bw g (cntT s v) A' c', [], rfl, rfl, blwR_bw g _ A' c', rfl, A', c', hrow, rfl⟩
end Go.Proofs.YtmjpidjdbofdjaaGreat
namespace Go.Proofs.YtmjpidjdbofdjaaGreat
open Go Go.Sy
def headT (e : Ent) : ByteArray := num1 e.val.kind ++ num1 e.key.size ++ e.key ++ zeros (8 - e.key.size)
def bodyT (e : Ent) : ByteArray := if e.val.kind = 1 then regT (headT e) e.val else if e.val.kind = 2 then cntT (headT e) e.val else flagT (headT e) e.val
def entT (e : Ent) : ByteArray := bodyT e ++ ⟨#[]⟩ ++ zeros ((headT e).size + 32 - (bodyT e).size)
theorem n1z (n : Int) : (num1 n).size ≤ 1 := by unfold num1; split; (rw [octT1_size]; omega); exact Nat.zero_le 1
theorem n2z (n : Int) : (num2 n).size ≤ 2 := by unfold num2; split; (rw [octT2_size]; omega); exact Nat.zero_le 2
theorem cl_size2 (s : ByteArray) (l : List Int) : ∀ i, s.size ≤ (cl s l i).size ∧ (cl s l i).size ≤ s.size + 2 * i
  | 0 => by simp [cl]
  | i + 1 => by
    have ih := cl_size2 s l i
    rcases Nat.lt_or_ge i l.length with hi | hi
    · rw [cl_succ (List.getElem?_eq_getElem hi), ByteArray.size_append]
      have := n2z l[i]
      omega
    · have : cl s l (i + 1) = cl s l i := by unfold cl; rw [List.take_of_length_le (by omega), List.take_of_length_le (by omega)]
      rw [this]; omega
theorem head_bd (e : Ent) (hk : e.key.size ≤ 8) : e.key.size ≤ (headT e).size ∧ (headT e).size ≤ 10 := by
  have h1 := n1z e.val.kind
  have h2 := n1z e.key.size
  unfold headT
  simp only [ByteArray.size_append, zeros_size]
  omega
theorem body_bd (e : Ent) (hk : e.key.size ≤ 8) (h1 : e.val.kind = 1 → e.val.text.size ≤ 8) (h2 : e.val.kind = 2 → e.val.plus.length ≤ 8 ∧ e.val.minus.length ≤ 8) : (headT e).size ≤ (bodyT e).size ∧ (bodyT e).size ≤ (headT e).size + 32 := by
  unfold bodyT
  split
  · rename_i h
    have := h1 h
    have z1 := num4_le e.val.time
    have z2 := n1z e.val.node
    have z3 := n1z (if e.val.dead = true then 1 else 0)
    have z4 := n1z e.val.text.size
    unfold regT
    simp only [ByteArray.size_append, zeros_size]
    omega
  split
  · rename_i h
    have := h2 h
    have z1 := cl_size2 (headT e) e.val.plus e.val.plus.length
    have z2 := cl_size2 (cl (headT e) e.val.plus e.val.plus.length) e.val.minus e.val.minus.length
    unfold cntT
    omega
  · have z1 := num4_le (fl1 e.val)
    have z2 := num4_le (fl2 e.val)
    unfold flagT
    simp only [ByteArray.size_append]
    omega
theorem c_Put_no (e : Ent) (he : e.bd) (hn : ¬ entOk e) : Fc Tryz.prog n_entry_Put [e.sv] (.tup [ss ⟨#[]⟩, iv 2]) := by
  have h := c_entry_Check e he
  unfold en at h
  rw [if_neg hn] at h
  refine Fc.of_body tabOk q_entry_Put (by kernel_rfl) ((blwL_one (blw_ent 0 e))) (rfl) ?_
  conv => whnf
  repeat' (first
    | (refine bltG (by first | omega | (simp only [List.length_map] at *; omega)) ?_; conv => whnf)
    | (refine ndG (by assumption) ?_; conv => whnf)
    | (refine mulG ?_; conv => whnf)
    | (refine And.intro rfl ?_; conv => whnf)
    | (refine dsT (by assumption) ?_; conv => whnf)
    | (refine dsF (by assumption) ?_; conv => whnf)
    | (refine nsT (by assumption) ?_; conv => whnf)
    | (refine nsF (by assumption) ?_; conv => whnf)
    | (refine bsT (by assumption) ?_; conv => whnf)
    | (refine bsF (by assumption) ?_; conv => whnf)
    | (refine dsp ?_ ?_ <;> intro _ <;> conv => whnf)
    | (refine nsp ?_ ?_ <;> intro _ <;> conv => whnf)
    | (refine cnd_true (by assumption) ?_; conv => whnf)
    | (refine cnd_false (by assumption) ?_; conv => whnf)
    | (refine cnd_split ?_ ?_ <;> intro _ <;> conv => whnf)
    | (refine Cd.par tabOk (by kernel_rfl) (by kernel_rfl) ?_; conv => whnf)
    | (refine Fc.use (h) ?_ ?_; (focus ((repeat' constructor); done)); conv => whnf)
    | (refine CallQ.of (h) ?_ ?_; (focus ((repeat' constructor); done)); conv => whnf))
  all_goals repeat' constructor
theorem lenW {nb : Nat} {boxes : List Bx} {extra : List Row} {g : Nat} {s : ByteArray} {A : Option Addr} {c : Nat} {K : SV → Hp → Prop} (hs : s.size ≤ 100000)
    (k : K (iv s.size) ⟨nb, boxes, wrow g (bwp g) (.own 1 A s.size c) :: ⟨A, s.size, c, t_uint8, 1, bytesSV s, false⟩ :: extra⟩) :
    Tr Tryz.prog n_strings_Builder_Len [bwp g] ⟨nb, boxes, wrow g (bwp g) (.own 1 A s.size c) :: ⟨A, s.size, c, t_uint8, 1, bytesSV s, false⟩ :: extra⟩ K := by
  refine Tr.mono (Tr.frameR (extra := extra) (t_Len g s A c hs) rfl (blwR_bw g s A c)) ?_
  rintro r H' ⟨X, rfl, rfl, rfl⟩
  exact k
theorem strR {nb : Nat} {boxes : List Bx} {extra : List Row} {g : Nat} {s : ByteArray} {A : Option Addr} {c : Nat} {K : SV → Hp → Prop} (hs : s.size ≠ 0)
    (k : K (ss s) ⟨nb, boxes, extra⟩) :
    Tr Tryz.prog n_strings_Builder_String [bwp g] ⟨nb, boxes, wrow g (bwp g) (.own 1 A s.size c) :: ⟨A, s.size, c, t_uint8, 1, bytesSV s, false⟩ :: extra⟩ K := by
  refine Tr.mono (Tr.frameR (extra := extra) (Q := fun r X => r = ss s ∧ X = []) ((t_String g s A c hs).mono ?_) rfl (blwR_bw g s A c)) ?_
  · rintro r H' ⟨rfl, rfl⟩
    exact ⟨[], [], rfl, rfl, rfl, rfl, rfl⟩
  · rintro r H' ⟨X, rfl, rfl, rfl⟩
    exact k
theorem c_Put_1 (key : ByteArray) (time node : Int) (dead : Bool) (text : ByteArray) (plus minus : List Int) (flags : Int) (he : Ent.bd ⟨key, ⟨1, time, node, dead, text, plus, minus, flags⟩⟩) (hy : entOk ⟨key, ⟨1, time, node, dead, text, plus, minus, flags⟩⟩) : Fc Tryz.prog n_entry_Put [Ent.sv ⟨key, ⟨1, time, node, dead, text, plus, minus, flags⟩⟩] (.tup [ss (entT ⟨key, ⟨1, time, node, dead, text, plus, minus, flags⟩⟩), iv 0]) := by
  have h := c_entry_Check _ he
  unfold en at h
  rw [if_pos hy] at h
  obtain ⟨y1, y2, y3⟩ := hy
  dsimp only at y1 y2 y3
  have ht : text.size ≤ 8 := by
    rcases y3 with ⟨_, y3⟩ | ⟨y3, _⟩ | ⟨y3, _⟩
    · exact y3.2.2.2.2.2.1
    · exact absurd y3 (by simp)
    · exact absurd y3 (by simp)
  have hb := body_bd ⟨key, ⟨1, time, node, dead, text, plus, minus, flags⟩⟩ y2 (fun h => by first | exact ht | (simp at h)) (fun h => by first | exact hl | (simp at h))
  have hh := head_bd ⟨key, ⟨1, time, node, dead, text, plus, minus, flags⟩⟩ y2
  have hB : bodyT ⟨key, ⟨1, time, node, dead, text, plus, minus, flags⟩⟩ = regT (headT ⟨key, ⟨1, time, node, dead, text, plus, minus, flags⟩⟩) ⟨1, time, node, dead, text, plus, minus, flags⟩ := rfl
  have z1 := n1z 1
  have z2 := n1z key.size
  have z3 : (num1 1 ++ num1 key.size).size = (num1 1).size + (num1 key.size).size := ByteArray.size_append
  have hk0 : key.size ≠ 0 := fun e => y1 (by apply ByteArray.ext; apply Array.eq_empty_of_size_eq_zero; exact e)
  have hkey : ∀ gw A c, Tr Tryz.prog n_entry_writer_text [bwp gw, ss key, iv 8] ⟨0, [], bw gw (num1 1 ++ num1 key.size) A c⟩ fun r H' => ∃ X rest, H'.rows = X ++ rest ∧ blw 0 r = true ∧ blwR 0 X = true ∧ WS gw (headT ⟨key, ⟨1, time, node, dead, text, plus, minus, flags⟩⟩) (.tup []) r X := fun gw A c => t_text gw _ A c (by omega) key 8 (8 - key.size) y2 (by omega) rfl
  have hcall : ∀ gw A c, RowV A (headT ⟨key, ⟨1, time, node, dead, text, plus, minus, flags⟩⟩).size c → Tr Tryz.prog n_entry_writer_register [bwp gw, Val.sv ⟨1, time, node, dead, text, plus, minus, flags⟩] ⟨0, [], bw gw (headT ⟨key, ⟨1, time, node, dead, text, plus, minus, flags⟩⟩) A c⟩ fun r H' => ∃ X rest, H'.rows = X ++ rest ∧ blw 0 r = true ∧ blwR 0 X = true ∧ WS gw (bodyT ⟨key, ⟨1, time, node, dead, text, plus, minus, flags⟩⟩) (.tup []) r X := by
    rw [hB]; intro gw A c hr; exact t_register gw _ A c (by dsimp only at hh; omega) _ ht
  unfold entT
  dsimp only at hh
  clear hB
  generalize bodyT ⟨key, ⟨1, time, node, dead, text, plus, minus, flags⟩⟩ = B at *
  generalize headT ⟨key, ⟨1, time, node, dead, text, plus, minus, flags⟩⟩ = Hd at *
  generalize hm : Hd.size + 32 - B.size = m
  have hw : IntKind.wrap .i64 (IntKind.wrap .i64 ((Hd.size : Int) + 32) - (B.size : Int)) = (m : Int) := by
    rw [wrap_i64 (n := (Hd.size : Int) + 32) (by omega) (by omega), wrap_i64 (by omega) (by omega)]; omega
  have hBz : (B ++ ⟨#[]⟩ ++ zeros m).size = B.size + m := by
    rw [ByteArray.size_append, ByteArray.size_append, zeros_size]; rfl
  have hlast : ∀ gw A c, Tr Tryz.prog n_entry_writer_text [bwp gw, ss ⟨#[]⟩, .v (.int .i64 (IntKind.wrap .i64 (IntKind.wrap .i64 ((Hd.size : Int) + 32) - (B.size : Int))))] ⟨0, [], bw gw B A c⟩ fun r H' => ∃ X rest, H'.rows = X ++ rest ∧ blw 0 r = true ∧ blwR 0 X = true ∧ WS gw (B ++ ⟨#[]⟩ ++ zeros m) (.tup []) r X := by
    rw [hw]; exact fun gw A c => t_text gw B A c (by omega) ⟨#[]⟩ m m (Nat.zero_le _) (by omega) (by show m - 0 = m; omega)
  clear hw
  refine Fc.of_body tabOk q_entry_Put (by kernel_rfl) ((blwL_one (blw_ent 0 _))) (rfl) ?_
  conv => whnf
  repeat' (first
    | (refine bltG (by first | omega | (simp only [List.length_map] at *; omega)) ?_; conv => whnf)
    | (refine ndG (by assumption) ?_; conv => whnf)
    | (refine mulG ?_; conv => whnf)
    | (refine And.intro rfl ?_; conv => whnf)
    | (refine dsT (by assumption) ?_; conv => whnf)
    | (refine dsF (by assumption) ?_; conv => whnf)
    | (refine nsT (by assumption) ?_; conv => whnf)
    | (refine nsF (by assumption) ?_; conv => whnf)
    | (refine bsT (by assumption) ?_; conv => whnf)
    | (refine bsF (by assumption) ?_; conv => whnf)
    | (refine dsp ?_ ?_ <;> intro _ <;> conv => whnf)
    | (refine nsp ?_ ?_ <;> intro _ <;> conv => whnf)
    | (refine cnd_true (by assumption) ?_; conv => whnf)
    | (refine cnd_false (by assumption) ?_; conv => whnf)
    | (refine cnd_split ?_ ?_ <;> intro _ <;> conv => whnf)
    | (refine Cd.par tabOk (by kernel_rfl) (by kernel_rfl) ?_; conv => whnf)
    | (refine Fc.use (h) ?_ ?_; (focus ((repeat' constructor); done)); conv => whnf)
    | (refine CallQ.of (h) ?_ ?_; (focus ((repeat' constructor); done)); conv => whnf))
  intro gw
  conv => whnf
  refine wsK (t_num0 gw 1 1 _ _ (num1_le _) (p1 _)) rfl rfl fun A1 c1 h1 => ?_
  conv => whnf
  repeat' (first
    | (refine bltG (by first | omega | (simp only [List.length_map] at *; omega)) ?_; conv => whnf)
    | (refine ndG (by assumption) ?_; conv => whnf)
    | (refine mulG ?_; conv => whnf)
    | (refine And.intro rfl ?_; conv => whnf)
    | (refine dsT (by assumption) ?_; conv => whnf)
    | (refine dsF (by assumption) ?_; conv => whnf)
    | (refine nsT (by assumption) ?_; conv => whnf)
    | (refine nsF (by assumption) ?_; conv => whnf)
    | (refine bsT (by assumption) ?_; conv => whnf)
    | (refine bsF (by assumption) ?_; conv => whnf)
    | (refine dsp ?_ ?_ <;> intro _ <;> conv => whnf)
    | (refine nsp ?_ ?_ <;> intro _ <;> conv => whnf)
    | (refine cnd_true (by assumption) ?_; conv => whnf)
    | (refine cnd_false (by assumption) ?_; conv => whnf)
    | (refine cnd_split ?_ ?_ <;> intro _ <;> conv => whnf)
    | (refine Cd.par tabOk (by kernel_rfl) (by kernel_rfl) ?_; conv => whnf))
  refine wsR (t_num gw _ A1 c1 (by omega) key.size 1 _ _ (num1_le _) (p1 _)) rfl fun A2 c2 h2 => ?_
  conv => whnf
  repeat' (first
    | (refine bltG (by first | omega | (simp only [List.length_map] at *; omega)) ?_; conv => whnf)
    | (refine ndG (by assumption) ?_; conv => whnf)
    | (refine mulG ?_; conv => whnf)
    | (refine And.intro rfl ?_; conv => whnf)
    | (refine dsT (by assumption) ?_; conv => whnf)
    | (refine dsF (by assumption) ?_; conv => whnf)
    | (refine nsT (by assumption) ?_; conv => whnf)
    | (refine nsF (by assumption) ?_; conv => whnf)
    | (refine bsT (by assumption) ?_; conv => whnf)
    | (refine bsF (by assumption) ?_; conv => whnf)
    | (refine dsp ?_ ?_ <;> intro _ <;> conv => whnf)
    | (refine nsp ?_ ?_ <;> intro _ <;> conv => whnf)
    | (refine cnd_true (by assumption) ?_; conv => whnf)
    | (refine cnd_false (by assumption) ?_; conv => whnf)
    | (refine cnd_split ?_ ?_ <;> intro _ <;> conv => whnf)
    | (refine Cd.par tabOk (by kernel_rfl) (by kernel_rfl) ?_; conv => whnf))
  refine wsR (hkey gw A2 c2) rfl fun A3 c3 h3 => ?_
  conv => whnf
  repeat' (first
    | (refine bltG (by first | omega | (simp only [List.length_map] at *; omega)) ?_; conv => whnf)
    | (refine ndG (by assumption) ?_; conv => whnf)
    | (refine mulG ?_; conv => whnf)
    | (refine And.intro rfl ?_; conv => whnf)
    | (refine dsT (by assumption) ?_; conv => whnf)
    | (refine dsF (by assumption) ?_; conv => whnf)
    | (refine nsT (by assumption) ?_; conv => whnf)
    | (refine nsF (by assumption) ?_; conv => whnf)
    | (refine bsT (by assumption) ?_; conv => whnf)
    | (refine bsF (by assumption) ?_; conv => whnf)
    | (refine dsp ?_ ?_ <;> intro _ <;> conv => whnf)
    | (refine nsp ?_ ?_ <;> intro _ <;> conv => whnf)
    | (refine cnd_true (by assumption) ?_; conv => whnf)
    | (refine cnd_false (by assumption) ?_; conv => whnf)
    | (refine cnd_split ?_ ?_ <;> intro _ <;> conv => whnf)
    | (refine Cd.par tabOk (by kernel_rfl) (by kernel_rfl) ?_; conv => whnf))
  refine lenW (by omega) ?_
  conv => whnf
  repeat' (first
    | (refine bltG (by first | omega | (simp only [List.length_map] at *; omega)) ?_; conv => whnf)
    | (refine ndG (by assumption) ?_; conv => whnf)
    | (refine mulG ?_; conv => whnf)
    | (refine And.intro rfl ?_; conv => whnf)
    | (refine dsT (by assumption) ?_; conv => whnf)
    | (refine dsF (by assumption) ?_; conv => whnf)
    | (refine nsT (by assumption) ?_; conv => whnf)
    | (refine nsF (by assumption) ?_; conv => whnf)
    | (refine bsT (by assumption) ?_; conv => whnf)
    | (refine bsF (by assumption) ?_; conv => whnf)
    | (refine dsp ?_ ?_ <;> intro _ <;> conv => whnf)
    | (refine nsp ?_ ?_ <;> intro _ <;> conv => whnf)
    | (refine cnd_true (by assumption) ?_; conv => whnf)
    | (refine cnd_false (by assumption) ?_; conv => whnf)
    | (refine cnd_split ?_ ?_ <;> intro _ <;> conv => whnf)
    | (refine Cd.par tabOk (by kernel_rfl) (by kernel_rfl) ?_; conv => whnf))
  refine wsR (hcall gw A3 c3 h3) (blwL_cons rfl (blwL_one (blw_val 0 ⟨1, time, node, dead, text, plus, minus, flags⟩))) fun A4 c4 h4 => ?_
  conv => whnf
  repeat' (first
    | (refine bltG (by first | omega | (simp only [List.length_map] at *; omega)) ?_; conv => whnf)
    | (refine ndG (by assumption) ?_; conv => whnf)
    | (refine mulG ?_; conv => whnf)
    | (refine And.intro rfl ?_; conv => whnf)
    | (refine dsT (by assumption) ?_; conv => whnf)
    | (refine dsF (by assumption) ?_; conv => whnf)
    | (refine nsT (by assumption) ?_; conv => whnf)
    | (refine nsF (by assumption) ?_; conv => whnf)
    | (refine bsT (by assumption) ?_; conv => whnf)
    | (refine bsF (by assumption) ?_; conv => whnf)
    | (refine dsp ?_ ?_ <;> intro _ <;> conv => whnf)
    | (refine nsp ?_ ?_ <;> intro _ <;> conv => whnf)
    | (refine cnd_true (by assumption) ?_; conv => whnf)
    | (refine cnd_false (by assumption) ?_; conv => whnf)
    | (refine cnd_split ?_ ?_ <;> intro _ <;> conv => whnf)
    | (refine Cd.par tabOk (by kernel_rfl) (by kernel_rfl) ?_; conv => whnf))
  refine lenW (by omega) ?_
  conv => whnf
  repeat' (first
    | (refine bltG (by first | omega | (simp only [List.length_map] at *; omega)) ?_; conv => whnf)
    | (refine ndG (by assumption) ?_; conv => whnf)
    | (refine mulG ?_; conv => whnf)
    | (refine And.intro rfl ?_; conv => whnf)
    | (refine dsT (by assumption) ?_; conv => whnf)
    | (refine dsF (by assumption) ?_; conv => whnf)
    | (refine nsT (by assumption) ?_; conv => whnf)
    | (refine nsF (by assumption) ?_; conv => whnf)
    | (refine bsT (by assumption) ?_; conv => whnf)
    | (refine bsF (by assumption) ?_; conv => whnf)
    | (refine dsp ?_ ?_ <;> intro _ <;> conv => whnf)
    | (refine nsp ?_ ?_ <;> intro _ <;> conv => whnf)
    | (refine cnd_true (by assumption) ?_; conv => whnf)
    | (refine cnd_false (by assumption) ?_; conv => whnf)
    | (refine cnd_split ?_ ?_ <;> intro _ <;> conv => whnf)
    | (refine Cd.par tabOk (by kernel_rfl) (by kernel_rfl) ?_; conv => whnf))
  refine wsR (hlast gw A4 c4) rfl fun A5 c5 h5 => ?_
  conv => whnf
  repeat' (first
    | (refine bltG (by first | omega | (simp only [List.length_map] at *; omega)) ?_; conv => whnf)
    | (refine ndG (by assumption) ?_; conv => whnf)
    | (refine mulG ?_; conv => whnf)
    | (refine And.intro rfl ?_; conv => whnf)
    | (refine dsT (by assumption) ?_; conv => whnf)
    | (refine dsF (by assumption) ?_; conv => whnf)
    | (refine nsT (by assumption) ?_; conv => whnf)
    | (refine nsF (by assumption) ?_; conv => whnf)
    | (refine bsT (by assumption) ?_; conv => whnf)
    | (refine bsF (by assumption) ?_; conv => whnf)
    | (refine dsp ?_ ?_ <;> intro _ <;> conv => whnf)
    | (refine nsp ?_ ?_ <;> intro _ <;> conv => whnf)
    | (refine cnd_true (by assumption) ?_; conv => whnf)
    | (refine cnd_false (by assumption) ?_; conv => whnf)
    | (refine cnd_split ?_ ?_ <;> intro _ <;> conv => whnf)
    | (refine Cd.par tabOk (by kernel_rfl) (by kernel_rfl) ?_; conv => whnf))
  refine strR (by omega) ?_
  conv => whnf
  exact ⟨rfl, rfl, by first | trivial | rfl⟩
theorem c_Put_2 (key : ByteArray) (time node : Int) (dead : Bool) (text : ByteArray) (plus minus : List Int) (flags : Int) (he : Ent.bd ⟨key, ⟨2, time, node, dead, text, plus, minus, flags⟩⟩) (hy : entOk ⟨key, ⟨2, time, node, dead, text, plus, minus, flags⟩⟩) : Fc Tryz.prog n_entry_Put [Ent.sv ⟨key, ⟨2, time, node, dead, text, plus, minus, flags⟩⟩] (.tup [ss (entT ⟨key, ⟨2, time, node, dead, text, plus, minus, flags⟩⟩), iv 0]) := by
  have h := c_entry_Check _ he
  unfold en at h
  rw [if_pos hy] at h
  obtain ⟨y1, y2, y3⟩ := hy
  dsimp only at y1 y2 y3
  have hl : plus.length ≤ 8 ∧ minus.length ≤ 8 := by
    rcases y3 with ⟨y3, _⟩ | ⟨_, y3⟩ | ⟨y3, _⟩
    · exact absurd y3 (by simp)
    · exact ⟨Nat.le_of_eq y3.2.1, Nat.le_of_eq y3.2.2.1⟩
    · exact absurd y3 (by simp)
  have hb := body_bd ⟨key, ⟨2, time, node, dead, text, plus, minus, flags⟩⟩ y2 (fun h => by first | exact ht | (simp at h)) (fun h => by first | exact hl | (simp at h))
  have hh := head_bd ⟨key, ⟨2, time, node, dead, text, plus, minus, flags⟩⟩ y2
  have hB : bodyT ⟨key, ⟨2, time, node, dead, text, plus, minus, flags⟩⟩ = cntT (headT ⟨key, ⟨2, time, node, dead, text, plus, minus, flags⟩⟩) ⟨2, time, node, dead, text, plus, minus, flags⟩ := rfl
  have z1 := n1z 2
  have z2 := n1z key.size
  have z3 : (num1 2 ++ num1 key.size).size = (num1 2).size + (num1 key.size).size := ByteArray.size_append
  have hk0 : key.size ≠ 0 := fun e => y1 (by apply ByteArray.ext; apply Array.eq_empty_of_size_eq_zero; exact e)
  have hkey : ∀ gw A c, Tr Tryz.prog n_entry_writer_text [bwp gw, ss key, iv 8] ⟨0, [], bw gw (num1 2 ++ num1 key.size) A c⟩ fun r H' => ∃ X rest, H'.rows = X ++ rest ∧ blw 0 r = true ∧ blwR 0 X = true ∧ WS gw (headT ⟨key, ⟨2, time, node, dead, text, plus, minus, flags⟩⟩) (.tup []) r X := fun gw A c => t_text gw _ A c (by omega) key 8 (8 - key.size) y2 (by omega) rfl
  have hcall : ∀ gw A c, RowV A (headT ⟨key, ⟨2, time, node, dead, text, plus, minus, flags⟩⟩).size c → Tr Tryz.prog n_entry_writer_counter [bwp gw, Val.sv ⟨2, time, node, dead, text, plus, minus, flags⟩] ⟨0, [], bw gw (headT ⟨key, ⟨2, time, node, dead, text, plus, minus, flags⟩⟩) A c⟩ fun r H' => ∃ X rest, H'.rows = X ++ rest ∧ blw 0 r = true ∧ blwR 0 X = true ∧ WS gw (bodyT ⟨key, ⟨2, time, node, dead, text, plus, minus, flags⟩⟩) (.tup []) r X := by
    rw [hB]; intro gw A c hr; exact t_counter gw _ A c hr (by dsimp only at hh; omega) _ (by dsimp only; omega) (by dsimp only; omega)
  unfold entT
  dsimp only at hh
  clear hB
  generalize bodyT ⟨key, ⟨2, time, node, dead, text, plus, minus, flags⟩⟩ = B at *
  generalize headT ⟨key, ⟨2, time, node, dead, text, plus, minus, flags⟩⟩ = Hd at *
  generalize hm : Hd.size + 32 - B.size = m
  have hw : IntKind.wrap .i64 (IntKind.wrap .i64 ((Hd.size : Int) + 32) - (B.size : Int)) = (m : Int) := by
    rw [wrap_i64 (n := (Hd.size : Int) + 32) (by omega) (by omega), wrap_i64 (by omega) (by omega)]; omega
  have hBz : (B ++ ⟨#[]⟩ ++ zeros m).size = B.size + m := by
    rw [ByteArray.size_append, ByteArray.size_append, zeros_size]; rfl
  have hlast : ∀ gw A c, Tr Tryz.prog n_entry_writer_text [bwp gw, ss ⟨#[]⟩, .v (.int .i64 (IntKind.wrap .i64 (IntKind.wrap .i64 ((Hd.size : Int) + 32) - (B.size : Int))))] ⟨0, [], bw gw B A c⟩ fun r H' => ∃ X rest, H'.rows = X ++ rest ∧ blw 0 r = true ∧ blwR 0 X = true ∧ WS gw (B ++ ⟨#[]⟩ ++ zeros m) (.tup []) r X := by
    rw [hw]; exact fun gw A c => t_text gw B A c (by omega) ⟨#[]⟩ m m (Nat.zero_le _) (by omega) (by show m - 0 = m; omega)
  clear hw
  refine Fc.of_body tabOk q_entry_Put (by kernel_rfl) ((blwL_one (blw_ent 0 _))) (rfl) ?_
  conv => whnf
  repeat' (first
    | (refine bltG (by first | omega | (simp only [List.length_map] at *; omega)) ?_; conv => whnf)
    | (refine ndG (by assumption) ?_; conv => whnf)
    | (refine mulG ?_; conv => whnf)
    | (refine And.intro rfl ?_; conv => whnf)
    | (refine dsT (by assumption) ?_; conv => whnf)
    | (refine dsF (by assumption) ?_; conv => whnf)
    | (refine nsT (by assumption) ?_; conv => whnf)
    | (refine nsF (by assumption) ?_; conv => whnf)
    | (refine bsT (by assumption) ?_; conv => whnf)
    | (refine bsF (by assumption) ?_; conv => whnf)
    | (refine dsp ?_ ?_ <;> intro _ <;> conv => whnf)
    | (refine nsp ?_ ?_ <;> intro _ <;> conv => whnf)
    | (refine cnd_true (by assumption) ?_; conv => whnf)
    | (refine cnd_false (by assumption) ?_; conv => whnf)
    | (refine cnd_split ?_ ?_ <;> intro _ <;> conv => whnf)
    | (refine Cd.par tabOk (by kernel_rfl) (by kernel_rfl) ?_; conv => whnf)
    | (refine Fc.use (h) ?_ ?_; (focus ((repeat' constructor); done)); conv => whnf)
    | (refine CallQ.of (h) ?_ ?_; (focus ((repeat' constructor); done)); conv => whnf))
  intro gw
  conv => whnf
  refine wsK (t_num0 gw 2 1 _ _ (num1_le _) (p1 _)) rfl rfl fun A1 c1 h1 => ?_
  conv => whnf
  repeat' (first
    | (refine bltG (by first | omega | (simp only [List.length_map] at *; omega)) ?_; conv => whnf)
    | (refine ndG (by assumption) ?_; conv => whnf)
    | (refine mulG ?_; conv => whnf)
    | (refine And.intro rfl ?_; conv => whnf)
    | (refine dsT (by assumption) ?_; conv => whnf)
    | (refine dsF (by assumption) ?_; conv => whnf)
    | (refine nsT (by assumption) ?_; conv => whnf)
    | (refine nsF (by assumption) ?_; conv => whnf)
    | (refine bsT (by assumption) ?_; conv => whnf)
    | (refine bsF (by assumption) ?_; conv => whnf)
    | (refine dsp ?_ ?_ <;> intro _ <;> conv => whnf)
    | (refine nsp ?_ ?_ <;> intro _ <;> conv => whnf)
    | (refine cnd_true (by assumption) ?_; conv => whnf)
    | (refine cnd_false (by assumption) ?_; conv => whnf)
    | (refine cnd_split ?_ ?_ <;> intro _ <;> conv => whnf)
    | (refine Cd.par tabOk (by kernel_rfl) (by kernel_rfl) ?_; conv => whnf))
  refine wsR (t_num gw _ A1 c1 (by omega) key.size 1 _ _ (num1_le _) (p1 _)) rfl fun A2 c2 h2 => ?_
  conv => whnf
  repeat' (first
    | (refine bltG (by first | omega | (simp only [List.length_map] at *; omega)) ?_; conv => whnf)
    | (refine ndG (by assumption) ?_; conv => whnf)
    | (refine mulG ?_; conv => whnf)
    | (refine And.intro rfl ?_; conv => whnf)
    | (refine dsT (by assumption) ?_; conv => whnf)
    | (refine dsF (by assumption) ?_; conv => whnf)
    | (refine nsT (by assumption) ?_; conv => whnf)
    | (refine nsF (by assumption) ?_; conv => whnf)
    | (refine bsT (by assumption) ?_; conv => whnf)
    | (refine bsF (by assumption) ?_; conv => whnf)
    | (refine dsp ?_ ?_ <;> intro _ <;> conv => whnf)
    | (refine nsp ?_ ?_ <;> intro _ <;> conv => whnf)
    | (refine cnd_true (by assumption) ?_; conv => whnf)
    | (refine cnd_false (by assumption) ?_; conv => whnf)
    | (refine cnd_split ?_ ?_ <;> intro _ <;> conv => whnf)
    | (refine Cd.par tabOk (by kernel_rfl) (by kernel_rfl) ?_; conv => whnf))
  refine wsR (hkey gw A2 c2) rfl fun A3 c3 h3 => ?_
  conv => whnf
  repeat' (first
    | (refine bltG (by first | omega | (simp only [List.length_map] at *; omega)) ?_; conv => whnf)
    | (refine ndG (by assumption) ?_; conv => whnf)
    | (refine mulG ?_; conv => whnf)
    | (refine And.intro rfl ?_; conv => whnf)
    | (refine dsT (by assumption) ?_; conv => whnf)
    | (refine dsF (by assumption) ?_; conv => whnf)
    | (refine nsT (by assumption) ?_; conv => whnf)
    | (refine nsF (by assumption) ?_; conv => whnf)
    | (refine bsT (by assumption) ?_; conv => whnf)
    | (refine bsF (by assumption) ?_; conv => whnf)
    | (refine dsp ?_ ?_ <;> intro _ <;> conv => whnf)
    | (refine nsp ?_ ?_ <;> intro _ <;> conv => whnf)
    | (refine cnd_true (by assumption) ?_; conv => whnf)
    | (refine cnd_false (by assumption) ?_; conv => whnf)
    | (refine cnd_split ?_ ?_ <;> intro _ <;> conv => whnf)
    | (refine Cd.par tabOk (by kernel_rfl) (by kernel_rfl) ?_; conv => whnf))
  refine lenW (by omega) ?_
  conv => whnf
  repeat' (first
    | (refine bltG (by first | omega | (simp only [List.length_map] at *; omega)) ?_; conv => whnf)
    | (refine ndG (by assumption) ?_; conv => whnf)
    | (refine mulG ?_; conv => whnf)
    | (refine And.intro rfl ?_; conv => whnf)
    | (refine dsT (by assumption) ?_; conv => whnf)
    | (refine dsF (by assumption) ?_; conv => whnf)
    | (refine nsT (by assumption) ?_; conv => whnf)
    | (refine nsF (by assumption) ?_; conv => whnf)
    | (refine bsT (by assumption) ?_; conv => whnf)
    | (refine bsF (by assumption) ?_; conv => whnf)
    | (refine dsp ?_ ?_ <;> intro _ <;> conv => whnf)
    | (refine nsp ?_ ?_ <;> intro _ <;> conv => whnf)
    | (refine cnd_true (by assumption) ?_; conv => whnf)
    | (refine cnd_false (by assumption) ?_; conv => whnf)
    | (refine cnd_split ?_ ?_ <;> intro _ <;> conv => whnf)
    | (refine Cd.par tabOk (by kernel_rfl) (by kernel_rfl) ?_; conv => whnf))
  refine wsR (hcall gw A3 c3 h3) (blwL_cons rfl (blwL_one (blw_val 0 ⟨2, time, node, dead, text, plus, minus, flags⟩))) fun A4 c4 h4 => ?_
  conv => whnf
  repeat' (first
    | (refine bltG (by first | omega | (simp only [List.length_map] at *; omega)) ?_; conv => whnf)
    | (refine ndG (by assumption) ?_; conv => whnf)
    | (refine mulG ?_; conv => whnf)
    | (refine And.intro rfl ?_; conv => whnf)
    | (refine dsT (by assumption) ?_; conv => whnf)
    | (refine dsF (by assumption) ?_; conv => whnf)
    | (refine nsT (by assumption) ?_; conv => whnf)
    | (refine nsF (by assumption) ?_; conv => whnf)
    | (refine bsT (by assumption) ?_; conv => whnf)
    | (refine bsF (by assumption) ?_; conv => whnf)
    | (refine dsp ?_ ?_ <;> intro _ <;> conv => whnf)
    | (refine nsp ?_ ?_ <;> intro _ <;> conv => whnf)
    | (refine cnd_true (by assumption) ?_; conv => whnf)
    | (refine cnd_false (by assumption) ?_; conv => whnf)
    | (refine cnd_split ?_ ?_ <;> intro _ <;> conv => whnf)
    | (refine Cd.par tabOk (by kernel_rfl) (by kernel_rfl) ?_; conv => whnf))
  refine lenW (by omega) ?_
  conv => whnf
  repeat' (first
    | (refine bltG (by first | omega | (simp only [List.length_map] at *; omega)) ?_; conv => whnf)
    | (refine ndG (by assumption) ?_; conv => whnf)
    | (refine mulG ?_; conv => whnf)
    | (refine And.intro rfl ?_; conv => whnf)
    | (refine dsT (by assumption) ?_; conv => whnf)
    | (refine dsF (by assumption) ?_; conv => whnf)
    | (refine nsT (by assumption) ?_; conv => whnf)
    | (refine nsF (by assumption) ?_; conv => whnf)
    | (refine bsT (by assumption) ?_; conv => whnf)
    | (refine bsF (by assumption) ?_; conv => whnf)
    | (refine dsp ?_ ?_ <;> intro _ <;> conv => whnf)
    | (refine nsp ?_ ?_ <;> intro _ <;> conv => whnf)
    | (refine cnd_true (by assumption) ?_; conv => whnf)
    | (refine cnd_false (by assumption) ?_; conv => whnf)
    | (refine cnd_split ?_ ?_ <;> intro _ <;> conv => whnf)
    | (refine Cd.par tabOk (by kernel_rfl) (by kernel_rfl) ?_; conv => whnf))
  refine wsR (hlast gw A4 c4) rfl fun A5 c5 h5 => ?_
  conv => whnf
  repeat' (first
    | (refine bltG (by first | omega | (simp only [List.length_map] at *; omega)) ?_; conv => whnf)
    | (refine ndG (by assumption) ?_; conv => whnf)
    | (refine mulG ?_; conv => whnf)
    | (refine And.intro rfl ?_; conv => whnf)
    | (refine dsT (by assumption) ?_; conv => whnf)
    | (refine dsF (by assumption) ?_; conv => whnf)
    | (refine nsT (by assumption) ?_; conv => whnf)
    | (refine nsF (by assumption) ?_; conv => whnf)
    | (refine bsT (by assumption) ?_; conv => whnf)
    | (refine bsF (by assumption) ?_; conv => whnf)
    | (refine dsp ?_ ?_ <;> intro _ <;> conv => whnf)
    | (refine nsp ?_ ?_ <;> intro _ <;> conv => whnf)
    | (refine cnd_true (by assumption) ?_; conv => whnf)
    | (refine cnd_false (by assumption) ?_; conv => whnf)
    | (refine cnd_split ?_ ?_ <;> intro _ <;> conv => whnf)
    | (refine Cd.par tabOk (by kernel_rfl) (by kernel_rfl) ?_; conv => whnf))
  refine strR (by omega) ?_
  conv => whnf
  exact ⟨rfl, rfl, by first | trivial | rfl⟩
theorem c_Put_3 (key : ByteArray) (time node : Int) (dead : Bool) (text : ByteArray) (plus minus : List Int) (flags : Int) (he : Ent.bd ⟨key, ⟨3, time, node, dead, text, plus, minus, flags⟩⟩) (hy : entOk ⟨key, ⟨3, time, node, dead, text, plus, minus, flags⟩⟩) : Fc Tryz.prog n_entry_Put [Ent.sv ⟨key, ⟨3, time, node, dead, text, plus, minus, flags⟩⟩] (.tup [ss (entT ⟨key, ⟨3, time, node, dead, text, plus, minus, flags⟩⟩), iv 0]) := by
  have h := c_entry_Check _ he
  unfold en at h
  rw [if_pos hy] at h
  obtain ⟨y1, y2, y3⟩ := hy
  dsimp only at y1 y2 y3
  have hb := body_bd ⟨key, ⟨3, time, node, dead, text, plus, minus, flags⟩⟩ y2 (fun h => by first | exact ht | (simp at h)) (fun h => by first | exact hl | (simp at h))
  have hh := head_bd ⟨key, ⟨3, time, node, dead, text, plus, minus, flags⟩⟩ y2
  have hB : bodyT ⟨key, ⟨3, time, node, dead, text, plus, minus, flags⟩⟩ = flagT (headT ⟨key, ⟨3, time, node, dead, text, plus, minus, flags⟩⟩) ⟨3, time, node, dead, text, plus, minus, flags⟩ := rfl
  have z1 := n1z 3
  have z2 := n1z key.size
  have z3 : (num1 3 ++ num1 key.size).size = (num1 3).size + (num1 key.size).size := ByteArray.size_append
  have hk0 : key.size ≠ 0 := fun e => y1 (by apply ByteArray.ext; apply Array.eq_empty_of_size_eq_zero; exact e)
  have hkey : ∀ gw A c, Tr Tryz.prog n_entry_writer_text [bwp gw, ss key, iv 8] ⟨0, [], bw gw (num1 3 ++ num1 key.size) A c⟩ fun r H' => ∃ X rest, H'.rows = X ++ rest ∧ blw 0 r = true ∧ blwR 0 X = true ∧ WS gw (headT ⟨key, ⟨3, time, node, dead, text, plus, minus, flags⟩⟩) (.tup []) r X := fun gw A c => t_text gw _ A c (by omega) key 8 (8 - key.size) y2 (by omega) rfl
  have hcall : ∀ gw A c, RowV A (headT ⟨key, ⟨3, time, node, dead, text, plus, minus, flags⟩⟩).size c → Tr Tryz.prog n_entry_writer_flags [bwp gw, Val.sv ⟨3, time, node, dead, text, plus, minus, flags⟩] ⟨0, [], bw gw (headT ⟨key, ⟨3, time, node, dead, text, plus, minus, flags⟩⟩) A c⟩ fun r H' => ∃ X rest, H'.rows = X ++ rest ∧ blw 0 r = true ∧ blwR 0 X = true ∧ WS gw (bodyT ⟨key, ⟨3, time, node, dead, text, plus, minus, flags⟩⟩) (.tup []) r X := by
    rw [hB]; intro gw A c hr; exact t_flags gw _ A c (by dsimp only at hh; omega) _
  unfold entT
  dsimp only at hh
  clear hB
  generalize bodyT ⟨key, ⟨3, time, node, dead, text, plus, minus, flags⟩⟩ = B at *
  generalize headT ⟨key, ⟨3, time, node, dead, text, plus, minus, flags⟩⟩ = Hd at *
  generalize hm : Hd.size + 32 - B.size = m
  have hw : IntKind.wrap .i64 (IntKind.wrap .i64 ((Hd.size : Int) + 32) - (B.size : Int)) = (m : Int) := by
    rw [wrap_i64 (n := (Hd.size : Int) + 32) (by omega) (by omega), wrap_i64 (by omega) (by omega)]; omega
  have hBz : (B ++ ⟨#[]⟩ ++ zeros m).size = B.size + m := by
    rw [ByteArray.size_append, ByteArray.size_append, zeros_size]; rfl
  have hlast : ∀ gw A c, Tr Tryz.prog n_entry_writer_text [bwp gw, ss ⟨#[]⟩, .v (.int .i64 (IntKind.wrap .i64 (IntKind.wrap .i64 ((Hd.size : Int) + 32) - (B.size : Int))))] ⟨0, [], bw gw B A c⟩ fun r H' => ∃ X rest, H'.rows = X ++ rest ∧ blw 0 r = true ∧ blwR 0 X = true ∧ WS gw (B ++ ⟨#[]⟩ ++ zeros m) (.tup []) r X := by
    rw [hw]; exact fun gw A c => t_text gw B A c (by omega) ⟨#[]⟩ m m (Nat.zero_le _) (by omega) (by show m - 0 = m; omega)
  clear hw
  refine Fc.of_body tabOk q_entry_Put (by kernel_rfl) ((blwL_one (blw_ent 0 _))) (rfl) ?_
  conv => whnf
  repeat' (first
    | (refine bltG (by first | omega | (simp only [List.length_map] at *; omega)) ?_; conv => whnf)
    | (refine ndG (by assumption) ?_; conv => whnf)
    | (refine mulG ?_; conv => whnf)
    | (refine And.intro rfl ?_; conv => whnf)
    | (refine dsT (by assumption) ?_; conv => whnf)
    | (refine dsF (by assumption) ?_; conv => whnf)
    | (refine nsT (by assumption) ?_; conv => whnf)
    | (refine nsF (by assumption) ?_; conv => whnf)
    | (refine bsT (by assumption) ?_; conv => whnf)
    | (refine bsF (by assumption) ?_; conv => whnf)
    | (refine dsp ?_ ?_ <;> intro _ <;> conv => whnf)
    | (refine nsp ?_ ?_ <;> intro _ <;> conv => whnf)
    | (refine cnd_true (by assumption) ?_; conv => whnf)
    | (refine cnd_false (by assumption) ?_; conv => whnf)
    | (refine cnd_split ?_ ?_ <;> intro _ <;> conv => whnf)
    | (refine Cd.par tabOk (by kernel_rfl) (by kernel_rfl) ?_; conv => whnf)
    | (refine Fc.use (h) ?_ ?_; (focus ((repeat' constructor); done)); conv => whnf)
    | (refine CallQ.of (h) ?_ ?_; (focus ((repeat' constructor); done)); conv => whnf))
  intro gw
  conv => whnf
  refine wsK (t_num0 gw 3 1 _ _ (num1_le _) (p1 _)) rfl rfl fun A1 c1 h1 => ?_
  conv => whnf
  repeat' (first
    | (refine bltG (by first | omega | (simp only [List.length_map] at *; omega)) ?_; conv => whnf)
    | (refine ndG (by assumption) ?_; conv => whnf)
    | (refine mulG ?_; conv => whnf)
    | (refine And.intro rfl ?_; conv => whnf)
    | (refine dsT (by assumption) ?_; conv => whnf)
    | (refine dsF (by assumption) ?_; conv => whnf)
    | (refine nsT (by assumption) ?_; conv => whnf)
    | (refine nsF (by assumption) ?_; conv => whnf)
    | (refine bsT (by assumption) ?_; conv => whnf)
    | (refine bsF (by assumption) ?_; conv => whnf)
    | (refine dsp ?_ ?_ <;> intro _ <;> conv => whnf)
    | (refine nsp ?_ ?_ <;> intro _ <;> conv => whnf)
    | (refine cnd_true (by assumption) ?_; conv => whnf)
    | (refine cnd_false (by assumption) ?_; conv => whnf)
    | (refine cnd_split ?_ ?_ <;> intro _ <;> conv => whnf)
    | (refine Cd.par tabOk (by kernel_rfl) (by kernel_rfl) ?_; conv => whnf))
  refine wsR (t_num gw _ A1 c1 (by omega) key.size 1 _ _ (num1_le _) (p1 _)) rfl fun A2 c2 h2 => ?_
  conv => whnf
  repeat' (first
    | (refine bltG (by first | omega | (simp only [List.length_map] at *; omega)) ?_; conv => whnf)
    | (refine ndG (by assumption) ?_; conv => whnf)
    | (refine mulG ?_; conv => whnf)
    | (refine And.intro rfl ?_; conv => whnf)
    | (refine dsT (by assumption) ?_; conv => whnf)
    | (refine dsF (by assumption) ?_; conv => whnf)
    | (refine nsT (by assumption) ?_; conv => whnf)
    | (refine nsF (by assumption) ?_; conv => whnf)
    | (refine bsT (by assumption) ?_; conv => whnf)
    | (refine bsF (by assumption) ?_; conv => whnf)
    | (refine dsp ?_ ?_ <;> intro _ <;> conv => whnf)
    | (refine nsp ?_ ?_ <;> intro _ <;> conv => whnf)
    | (refine cnd_true (by assumption) ?_; conv => whnf)
    | (refine cnd_false (by assumption) ?_; conv => whnf)
    | (refine cnd_split ?_ ?_ <;> intro _ <;> conv => whnf)
    | (refine Cd.par tabOk (by kernel_rfl) (by kernel_rfl) ?_; conv => whnf))
  refine wsR (hkey gw A2 c2) rfl fun A3 c3 h3 => ?_
  conv => whnf
  repeat' (first
    | (refine bltG (by first | omega | (simp only [List.length_map] at *; omega)) ?_; conv => whnf)
    | (refine ndG (by assumption) ?_; conv => whnf)
    | (refine mulG ?_; conv => whnf)
    | (refine And.intro rfl ?_; conv => whnf)
    | (refine dsT (by assumption) ?_; conv => whnf)
    | (refine dsF (by assumption) ?_; conv => whnf)
    | (refine nsT (by assumption) ?_; conv => whnf)
    | (refine nsF (by assumption) ?_; conv => whnf)
    | (refine bsT (by assumption) ?_; conv => whnf)
    | (refine bsF (by assumption) ?_; conv => whnf)
    | (refine dsp ?_ ?_ <;> intro _ <;> conv => whnf)
    | (refine nsp ?_ ?_ <;> intro _ <;> conv => whnf)
    | (refine cnd_true (by assumption) ?_; conv => whnf)
    | (refine cnd_false (by assumption) ?_; conv => whnf)
    | (refine cnd_split ?_ ?_ <;> intro _ <;> conv => whnf)
    | (refine Cd.par tabOk (by kernel_rfl) (by kernel_rfl) ?_; conv => whnf))
  refine lenW (by omega) ?_
  conv => whnf
  repeat' (first
    | (refine bltG (by first | omega | (simp only [List.length_map] at *; omega)) ?_; conv => whnf)
    | (refine ndG (by assumption) ?_; conv => whnf)
    | (refine mulG ?_; conv => whnf)
    | (refine And.intro rfl ?_; conv => whnf)
    | (refine dsT (by assumption) ?_; conv => whnf)
    | (refine dsF (by assumption) ?_; conv => whnf)
    | (refine nsT (by assumption) ?_; conv => whnf)
    | (refine nsF (by assumption) ?_; conv => whnf)
    | (refine bsT (by assumption) ?_; conv => whnf)
    | (refine bsF (by assumption) ?_; conv => whnf)
    | (refine dsp ?_ ?_ <;> intro _ <;> conv => whnf)
    | (refine nsp ?_ ?_ <;> intro _ <;> conv => whnf)
    | (refine cnd_true (by assumption) ?_; conv => whnf)
    | (refine cnd_false (by assumption) ?_; conv => whnf)
    | (refine cnd_split ?_ ?_ <;> intro _ <;> conv => whnf)
    | (refine Cd.par tabOk (by kernel_rfl) (by kernel_rfl) ?_; conv => whnf))
  refine wsR (hcall gw A3 c3 h3) (blwL_cons rfl (blwL_one (blw_val 0 ⟨3, time, node, dead, text, plus, minus, flags⟩))) fun A4 c4 h4 => ?_
  conv => whnf
  repeat' (first
    | (refine bltG (by first | omega | (simp only [List.length_map] at *; omega)) ?_; conv => whnf)
    | (refine ndG (by assumption) ?_; conv => whnf)
    | (refine mulG ?_; conv => whnf)
    | (refine And.intro rfl ?_; conv => whnf)
    | (refine dsT (by assumption) ?_; conv => whnf)
    | (refine dsF (by assumption) ?_; conv => whnf)
    | (refine nsT (by assumption) ?_; conv => whnf)
    | (refine nsF (by assumption) ?_; conv => whnf)
    | (refine bsT (by assumption) ?_; conv => whnf)
    | (refine bsF (by assumption) ?_; conv => whnf)
    | (refine dsp ?_ ?_ <;> intro _ <;> conv => whnf)
    | (refine nsp ?_ ?_ <;> intro _ <;> conv => whnf)
    | (refine cnd_true (by assumption) ?_; conv => whnf)
    | (refine cnd_false (by assumption) ?_; conv => whnf)
    | (refine cnd_split ?_ ?_ <;> intro _ <;> conv => whnf)
    | (refine Cd.par tabOk (by kernel_rfl) (by kernel_rfl) ?_; conv => whnf))
  refine lenW (by omega) ?_
  conv => whnf
  repeat' (first
    | (refine bltG (by first | omega | (simp only [List.length_map] at *; omega)) ?_; conv => whnf)
    | (refine ndG (by assumption) ?_; conv => whnf)
    | (refine mulG ?_; conv => whnf)
    | (refine And.intro rfl ?_; conv => whnf)
    | (refine dsT (by assumption) ?_; conv => whnf)
    | (refine dsF (by assumption) ?_; conv => whnf)
    | (refine nsT (by assumption) ?_; conv => whnf)
    | (refine nsF (by assumption) ?_; conv => whnf)
    | (refine bsT (by assumption) ?_; conv => whnf)
    | (refine bsF (by assumption) ?_; conv => whnf)
    | (refine dsp ?_ ?_ <;> intro _ <;> conv => whnf)
    | (refine nsp ?_ ?_ <;> intro _ <;> conv => whnf)
    | (refine cnd_true (by assumption) ?_; conv => whnf)
    | (refine cnd_false (by assumption) ?_; conv => whnf)
    | (refine cnd_split ?_ ?_ <;> intro _ <;> conv => whnf)
    | (refine Cd.par tabOk (by kernel_rfl) (by kernel_rfl) ?_; conv => whnf))
  refine wsR (hlast gw A4 c4) rfl fun A5 c5 h5 => ?_
  conv => whnf
  repeat' (first
    | (refine bltG (by first | omega | (simp only [List.length_map] at *; omega)) ?_; conv => whnf)
    | (refine ndG (by assumption) ?_; conv => whnf)
    | (refine mulG ?_; conv => whnf)
    | (refine And.intro rfl ?_; conv => whnf)
    | (refine dsT (by assumption) ?_; conv => whnf)
    | (refine dsF (by assumption) ?_; conv => whnf)
    | (refine nsT (by assumption) ?_; conv => whnf)
    | (refine nsF (by assumption) ?_; conv => whnf)
    | (refine bsT (by assumption) ?_; conv => whnf)
    | (refine bsF (by assumption) ?_; conv => whnf)
    | (refine dsp ?_ ?_ <;> intro _ <;> conv => whnf)
    | (refine nsp ?_ ?_ <;> intro _ <;> conv => whnf)
    | (refine cnd_true (by assumption) ?_; conv => whnf)
    | (refine cnd_false (by assumption) ?_; conv => whnf)
    | (refine cnd_split ?_ ?_ <;> intro _ <;> conv => whnf)
    | (refine Cd.par tabOk (by kernel_rfl) (by kernel_rfl) ?_; conv => whnf))
  refine strR (by omega) ?_
  conv => whnf
  exact ⟨rfl, rfl, by first | trivial | rfl⟩
theorem c_entry_Put (e : Ent) (he : e.bd) : Fc Tryz.prog n_entry_Put [e.sv] (.tup [ss (if entOk e then entT e else ⟨#[]⟩), iv (if entOk e then 0 else 2)]) := by
  by_cases hy : entOk e
  · rw [if_pos hy, if_pos hy]
    obtain ⟨key, ⟨kind, time, node, dead, text, plus, minus, flags⟩⟩ := e
    rcases hy.2.2 with ⟨hk, _⟩ | ⟨hk, _⟩ | ⟨hk, _⟩
    all_goals (dsimp only at hk; subst hk)
    · exact c_Put_1 _ _ _ _ _ _ _ _ he hy
    · exact c_Put_2 _ _ _ _ _ _ _ _ he hy
    · exact c_Put_3 _ _ _ _ _ _ _ _ he hy
  · rw [if_neg hy, if_neg hy]
    exact c_Put_no e he hy
end Go.Proofs.YtmjpidjdbofdjaaGreat

