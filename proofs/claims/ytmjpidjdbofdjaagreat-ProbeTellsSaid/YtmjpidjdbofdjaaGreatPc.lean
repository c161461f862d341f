import Derived.Test.YtmjpidjdbofdjaaGreatXq
/- Plain law: values come together in whatever order. Plain law: arenas that are alike have the same sums. -/
set_option linter.unusedVariables false
set_option linter.unusedSimpArgs false
namespace Go.Proofs.YtmjpidjdbofdjaaGreat
open Go Go.Sy
theorem regLt_asym {a b : Val} (h : regLt a b = true) : regLt b a = false := by
  cases hk : regLt b a with
  | false => rfl
  | true =>
    exfalso
    unfold regLt at h hk
    simp only [Bool.or_eq_true, Bool.and_eq_true, decide_eq_true_eq] at h hk
    rcases h with h | ⟨h1, h | ⟨h2, h | ⟨h3, h⟩⟩⟩ <;> rcases hk with k | ⟨k1, k | ⟨k2, k | ⟨k3, k⟩⟩⟩
    all_goals first
      | omega
      | (rw [h3] at k; omega)
      | (rw [k3] at h; omega)
      | (rw [bl_asym h] at k; cases k)
theorem regLt_tot {a b : Val} (h : regLt a b = false) (k : regLt b a = false) : a.time = b.time ∧ a.node = b.node ∧ a.dead = b.dead ∧ a.text = b.text := by
  unfold regLt at h k
  simp only [Bool.or_eq_false_iff, Bool.and_eq_false_iff, decide_eq_false_iff_not] at h k
  have h1 : a.time = b.time := by omega
  have h2 : a.node = b.node := by
    rcases h.2 with e | e
    · exact absurd h1 e
    rcases k.2 with f | f
    · exact absurd h1.symm f
    have := e.1; have := f.1; omega
  have h3 : a.dead = b.dead := by
    rcases h.2 with e | e
    · exact absurd h1 e
    rcases k.2 with f | f
    · exact absurd h1.symm f
    rcases e.2 with e | e
    · exact absurd h2 e
    rcases f.2 with f | f
    · exact absurd h2.symm f
    have e1 := e.1; have f1 := f.1
    unfold btI at e1 f1
    cases ha : a.dead <;> cases hb : b.dead <;> simp [ha, hb] at e1 f1 ⊢
  have h4 : a.text = b.text := by
    rcases h.2 with e | e
    · exact absurd h1 e
    rcases k.2 with f | f
    · exact absurd h1.symm f
    rcases e.2 with e | e
    · exact absurd h2 e
    rcases f.2 with f | f
    · exact absurd h2.symm f
    rcases e.2 with e | e
    · exact absurd h3 e
    rcases f.2 with f | f
    · exact absurd h3.symm f
    by_cases ht : a.text.toList = b.text.toList
    · exact toList_inj ht
    · rcases bl_total ht with g | g
      · rw [g] at e; cases e
      · rw [g] at f; cases f
  exact ⟨h1, h2, h3, h4⟩
theorem or_comm64 (x y : Int) : bitI .or .u64 x y = bitI .or .u64 y x := by
  unfold bitI
  simp only
  rw [BitVec.or_comm]
theorem joinV_comm {a b : Val} (ha : valOk a) (hb : valOk b) (h : a.kind = b.kind) : joinV a b = joinV b a := by
  unfold joinV
  rcases ha with ⟨k, ha⟩ | ⟨k, ha⟩ | ⟨k, ha⟩
  · have kb : b.kind = 1 := h.symm.trans k
    rw [if_pos k, if_pos kb]
    rcases hb with ⟨k', hb⟩ | ⟨k', _⟩ | ⟨k', _⟩
    case inr.inl => omega
    case inr.inr => omega
    by_cases h1 : regLt a b = true
    · rw [if_pos h1, if_neg (by rw [regLt_asym h1]; simp)]
    · by_cases h2 : regLt b a = true
      · rw [if_neg h1, if_pos h2]
      · rw [if_neg h1, if_neg h2]
        obtain ⟨e1, e2, e3, e4⟩ := regLt_tot (by simpa using h1) (by simpa using h2)
        rw [ha.1, hb.1]
        unfold regV
        rw [e1, e2, e3, e4, h]
  · have n1 : ¬ a.kind = 1 := by omega
    have n2 : ¬ b.kind = 1 := by omega
    have k' : b.kind = 2 := by omega
    rw [if_neg n1, if_neg n2, if_pos k, if_pos k']
    rcases hb with ⟨k2, _⟩ | ⟨_, hb⟩ | ⟨k2, _⟩
    case inl => omega
    case inr.inr => omega
    have hz1 : zmax a.plus b.plus = zmax b.plus a.plus := zmax_comm (by rw [ha.2.1, hb.2.1])
    have hz2 : zmax a.minus b.minus = zmax b.minus a.minus := zmax_comm (by rw [ha.2.2.1, hb.2.2.1])
    have ea := ha.1
    have eb := hb.1
    rw [hz1, hz2]
    generalize zmax b.plus a.plus = p
    generalize zmax b.minus a.minus = q
    rw [ea, eb]
    unfold cntV
    simp only [h]
  · have n1 : ¬ a.kind = 1 := by omega
    have n2 : ¬ b.kind = 1 := by omega
    have n3 : ¬ a.kind = 2 := by omega
    have n4 : ¬ b.kind = 2 := by omega
    rw [if_neg n1, if_neg n2, if_neg n3, if_neg n4]
    rcases hb with ⟨k2, _⟩ | ⟨k2, _⟩ | ⟨_, hb⟩
    · omega
    · omega
    rw [or_comm64 a.flags b.flags]
    generalize bitI .or .u64 b.flags a.flags = p
    rw [ha, hb]
    unfold flgV
    simp only [h]
theorem joinE_anti {a b : Ent} (ha : entOk a) (hb : entOk b) (h : named a b) (h1 : joinE a b = b) (h2 : joinE b a = a) : a = b := by
  have hc := joinV_comm ha.2.2 hb.2.2 h.1
  have e1 : joinV a.val b.val = b.val := congrArg Ent.val h1
  have e2 : joinV b.val a.val = a.val := congrArg Ent.val h2
  have : a.val = b.val := by rw [← e1, hc, e2]
  obtain ⟨k, v⟩ := a
  obtain ⟨k', v'⟩ := b
  simp only at this
  have hk : k = k' := h.2
  rw [hk, this]
end Go.Proofs.YtmjpidjdbofdjaaGreat
namespace Go.Proofs.YtmjpidjdbofdjaaGreat
open Go Go.Sy
theorem xor_nat {n m : Nat} (hn : n < 2 ^ 32) (hm : m < 2 ^ 32) : bitI .xor .i64 (n : Int) (m : Int) = ((n ^^^ m : Nat) : Int) ∧ n ^^^ m < 2 ^ 32 := by
  have hx : n ^^^ m < 2 ^ 32 := Nat.xor_lt_two_pow hn hm
  refine ⟨?_, hx⟩
  unfold bitI
  simp only [BitVec.ofInt_natCast]
  have e : (BitVec.ofNat IntKind.i64.bits n ^^^ BitVec.ofNat IntKind.i64.bits m).toNat = n ^^^ m := by
    rw [BitVec.toNat_xor, BitVec.toNat_ofNat, BitVec.toNat_ofNat]
    have hb : IntKind.i64.bits = 64 := rfl
    rw [hb, Nat.mod_eq_of_lt (by omega), Nat.mod_eq_of_lt (by omega)]
  rw [e]
  exact wrap_i64 (by omega) (by omega)
theorem putS_nat (e : Ent) : ∃ p : Nat, putS e = p ∧ p < 2 ^ 32 := by
  have h := crcS_bd (if entOk e then entT e else ⟨#[]⟩)
  exact ⟨(putS e).toNat, by unfold putS; omega, by unfold putS; omega⟩
def smN (l : List Ent) (j : Int) : Nat := l.foldl (fun n e => if bk e.val.kind e.key = j then n ^^^ (putS e).toNat else n) 0
theorem smF_nat (j : Int) : ∀ (l : List Ent) (n : Nat), n < 2 ^ 32 → l.foldl (fun (n : Int) e => if bk e.val.kind e.key = j then bitI .xor .i64 n (putS e) else n) (n : Int) = ((l.foldl (fun (n : Nat) e => if bk e.val.kind e.key = j then n ^^^ (putS e).toNat else n) n : Nat) : Int) ∧ l.foldl (fun (n : Nat) e => if bk e.val.kind e.key = j then n ^^^ (putS e).toNat else n) n < 2 ^ 32
  | [], n, hn => ⟨rfl, hn⟩
  | e :: r, n, hn => by
    simp only [List.foldl_cons]
    obtain ⟨p, hp, hp2⟩ := putS_nat e
    split
    · rw [hp]
      obtain ⟨h1, h2⟩ := xor_nat hn hp2
      rw [h1, Int.toNat_natCast]
      exact smF_nat j r _ h2
    · exact smF_nat j r n hn
theorem smS_eq (l : List Ent) (j : Int) : smS l j = smN l j := (smF_nat j l 0 (by omega)).1
theorem smS_bd (l : List Ent) (j : Int) : 0 ≤ smS l j ∧ smS l j < 4294967296 := by
  have h1 := smS_eq l j
  have h2 : smN l j < 2 ^ 32 := (smF_nat j l 0 (by omega)).2
  omega
theorem smN_perm {l m : List Ent} (h : l.Perm m) (j : Int) : smN l j = smN m j := by
  unfold smN
  refine h.foldl_eq' (fun x _ y _ z => ?_) 0
  by_cases h1 : bk x.val.kind x.key = j <;> by_cases h2 : bk y.val.kind y.key = j <;> simp only [h1, h2, if_true, if_false]
  rw [Nat.xor_assoc, Nat.xor_comm (putS x).toNat, ← Nat.xor_assoc]
theorem dist_eq {l : List Ent} (h : dist l) {x y : Ent} (hx : x ∈ l) (hy : y ∈ l) (hn : named x y) : x = y := by
  unfold dist at h
  induction l with
  | nil => cases hx
  | cons z r ih =>
    rw [List.pairwise_cons] at h
    rcases List.mem_cons.1 hx with hx' | hx' <;> rcases List.mem_cons.1 hy with hy' | hy'
    · rw [hx', hy']
    · exact absurd (hx' ▸ hn) (h.1 y hy')
    · exact absurd (hy' ▸ hn).symm (h.1 x hx')
    · exact ih h.2 hx' hy'
theorem dist_nodup {l : List Ent} (h : dist l) : l.Nodup := List.Pairwise.imp (fun {a b} (hn : ¬ named a b) (e : a = b) => hn (e ▸ named.refl a)) h
theorem perm_of_mem : ∀ {l m : List Ent}, l.Nodup → m.Nodup → (∀ e, e ∈ l ↔ e ∈ m) → l.Perm m
  | [], m, _, _, h => by
    have : m = [] := List.eq_nil_iff_forall_not_mem.2 fun e he => by have := (h e).2 he; cases this
    rw [this]
  | x :: r, m, hl, hm, h => by
    rw [List.nodup_cons] at hl
    have hx : x ∈ m := (h x).1 (List.mem_cons_self ..)
    refine (List.Perm.cons x (perm_of_mem hl.2 (hm.erase x) fun e => ?_)).trans (List.perm_cons_erase hx).symm
    rw [hm.mem_erase_iff]
    constructor
    · intro he
      exact ⟨fun e' => hl.1 (e' ▸ he), (h e).1 (List.mem_cons_of_mem _ he)⟩
    · rintro ⟨hne, he⟩
      rcases List.mem_cons.1 ((h e).2 he) with e' | he'
      · exact absurd e' hne
      · exact he'
theorem below_mem {a b : Ar} (h : belowB a b) {e : Ent} (he : e ∈ a.slots) : ∃ y ∈ b.slots, named e y ∧ joinE e y = y := by
  have h1 := h.2.2 e he
  unfold bl1 at h1
  cases hfi : b.slots.findIdx? (isN e.val.kind e.key) with
  | none => rw [hfi] at h1; cases h1
  | some j =>
    rw [hfi] at h1
    obtain ⟨hj, hjp, _⟩ := List.findIdx?_eq_some_iff_getElem.1 hfi
    simp only [List.getElem?_eq_getElem hj, decide_eq_true_eq] at h1
    unfold isN at hjp
    simp only [decide_eq_true_eq] at hjp
    exact ⟨_, List.getElem_mem hj, ⟨hjp.1.symm, hjp.2.symm⟩, h1⟩
theorem alike_sub {a b : Ar} (h : alikeB a b) {e : Ent} (he : e ∈ a.slots) : e ∈ b.slots := by
  obtain ⟨hka, hkb, _⟩ := h.1
  obtain ⟨y, hy, hn, hj⟩ := below_mem h.1 he
  obtain ⟨e', he', hn', hj'⟩ := below_mem h.2 hy
  have : e = e' := dist_eq (srtd_iff.1 hka.2.2.2.2.1) he he' (hn.trans hn')
  subst this
  rw [joinE_anti (hka.2.2.2.1 e he) (hkb.2.2.2.1 y hy) hn hj hj']
  exact hy
theorem alike_perm {a b : Ar} (h : alikeB a b) : a.slots.Perm b.slots :=
  perm_of_mem (dist_nodup (srtd_iff.1 h.1.1.2.2.2.2.1)) (dist_nodup (srtd_iff.1 h.1.2.1.2.2.2.2.1)) fun e => ⟨alike_sub h, alike_sub ⟨h.2, h.1⟩⟩
theorem alike_sums {a b : Ar} (h : alikeB a b) (j : Int) : smF a j = smF b j := by
  unfold smF slotsOf
  rw [if_pos h.1.1, if_pos h.1.2.1, smS_eq, smS_eq, smN_perm (alike_perm h)]
theorem alike_ask {a b : Ar} (h : alikeB a b) : askF a = askF b := by
  unfold askF
  rw [alike_sums h 0, alike_sums h 1, alike_sums h 2, alike_sums h 3]
end Go.Proofs.YtmjpidjdbofdjaaGreat

