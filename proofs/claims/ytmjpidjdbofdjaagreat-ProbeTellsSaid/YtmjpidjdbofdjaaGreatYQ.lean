import Derived.Test.YtmjpidjdbofdjaaGreatYM
/- Sy, parts N to Q: regions whose order is open. -/
set_option linter.unusedVariables false
set_option linter.unusedSimpArgs false
/- Sy, part N: regions that draw their order. -/
namespace Go.Sy
open Go

/-- Operations that only tell a value. -/
def quietOp : Op → Bool
  | .move _ | .assign _ | .pick .. | .nilCheck _ | .binOp .. | .unOp .. | .convert .. | .makeFunc .. | .makeInterface .. | .extract .. | .fieldAddr .. | .field .. | .index .. | .indexAddr .. | .slice .. | .load .. | .build .. | .buildSlice .. | .lookup .. => true
  | _ => false
/-- .. and do not look at the state. -/
def agnOp : Op → Bool
  | .move _ | .assign _ | .pick .. | .nilCheck _ | .binOp .. | .unOp .. | .makeFunc .. | .makeInterface .. | .extract .. | .fieldAddr .. | .field .. | .index .. | .indexAddr .. | .slice .. | .build .. | .buildSlice .. => true
  | _ => false
/-- It comes to one value, whatever is asked of it. -/
def Det (F : (SV → Hp → Prop) → Prop) (H : Hp) : Prop := ∀ k, F k → ∃ s, k s H ∧ ∀ k', k' s H → F k'
theorem det_nd {α : Type} {o : Option α} {F : α → (SV → Hp → Prop) → Prop} {H : Hp} (h : ∀ a, Det (F a) H) : Det (fun k => nd o fun a => F a k) H := by
  intro k hk
  obtain ⟨a, rfl, hk⟩ := nd_elim hk
  obtain ⟨s, h1, h2⟩ := h a k hk
  exact ⟨s, h1, fun k' hk' => h2 k' hk'⟩
theorem det_ret {s : SV} {H : Hp} : Det (fun k => k s H) H := fun _ hk => ⟨s, hk, fun _ h => h⟩
theorem det_false {H : Hp} : Det (fun _ => False) H := fun _ hk => hk.elim
theorem det_inb {z : Int} {n : Nat} {F : Nat → (SV → Hp → Prop) → Prop} {H : Hp} (h : ∀ a, Det (F a) H) : Det (fun k => inb z n fun a => F a k) H := by
  intro k hk
  obtain ⟨h0, h1, hk⟩ := inb_elim hk
  obtain ⟨s, h2, h3⟩ := h _ k hk
  exact ⟨s, h2, fun k' hk' => inb_mk h0 h1 (h3 k' hk')⟩
theorem det_nng {z : Int} {F : Nat → (SV → Hp → Prop) → Prop} {H : Hp} (h : ∀ a, Det (F a) H) : Det (fun k => nng z fun a => F a k) H := by
  intro k hk
  obtain ⟨h0, hk⟩ := nng_elim hk
  obtain ⟨s, h2, h3⟩ := h _ k hk
  exact ⟨s, h2, fun k' hk' => nng_mk h0 (h3 k' hk')⟩
theorem det_nz {z : Int} {F : (SV → Hp → Prop) → Prop} {H : Hp} (h : Det F H) : Det (fun k => nz z (F k)) H := by
  intro k hk
  obtain ⟨h0, hk⟩ := nz_elim hk
  obtain ⟨s, h2, h3⟩ := h k hk
  exact ⟨s, h2, fun k' hk' => nz_mk h0 (h3 k' hk')⟩
theorem det_cnd {b : Bool} {F G : (SV → Hp → Prop) → Prop} {H : Hp} (h1 : Det F H) (h2 : Det G H) : Det (fun k => cnd b (F k) (G k)) H := by
  intro k hk
  cases b
  · exact h2 k hk
  · exact h1 k hk
theorem det_lf {α : Type} {l : List α} {F : List α → (SV → Hp → Prop) → Prop} {H : Hp} (h : ∀ l, Det (F l) H) : Det (fun k => lf l fun a => F a k) H := by
  intro k hk
  simp only [lf_eq] at hk ⊢
  exact h l k hk
theorem det_and {p : Prop} {F : (SV → Hp → Prop) → Prop} {H : Hp} (h : Det F H) : Det (fun k => p ∧ F k) H := by
  intro k ⟨hp, hk⟩
  obtain ⟨s, h2, h3⟩ := h k hk
  exact ⟨s, h2, fun k' hk' => ⟨hp, h3 k' hk'⟩⟩
theorem det_ex {α : Type} {F : α → (SV → Hp → Prop) → Prop} {H : Hp} (h : ∀ a, Det (F a) H) : Det (fun k => ∃ a, F a k) H := by
  intro k ⟨a, hk⟩
  obtain ⟨s, h2, h3⟩ := h a k hk
  exact ⟨s, h2, fun k' hk' => ⟨a, h3 k' hk'⟩⟩
theorem det_fill {d : TD} {H : Hp} : ∀ (ps : List (Nat × SV)) (cs : List SV), Det (fun k => fillS d cs ps fun cs => k (.agg cs) H) H
  | [], cs => by simp only [fillS]; exact det_ret
  | (i, s) :: r, cs => by
    simp only [fillS]
    refine det_nd fun p => ?_
    split
    · exact det_nd fun cs => det_lf fun cs => det_fill r cs
    · exact det_false
theorem det_bnd {x : Option SV} {d hi : Nat} {F : Nat → (SV → Hp → Prop) → Prop} {H : Hp} (h : ∀ a, Det (F a) H) : Det (fun k => bnd x d hi fun a => F a k) H := by
  unfold bnd
  split
  · exact h _
  · exact det_inb h
  · exact det_false
theorem det_binI {op : BinOp} {k0 : IntKind} {a b : Int} {H : Hp} : Det (fun k => binI op k0 a b fun s => k s H) H := by
  cases op <;> simp only [binI] <;> first | exact det_ret | exact det_nz det_ret | exact det_false
theorem det_binS {op : BinOp} {x y : SV} {H : Hp} : Det (fun k => binS op x y fun s => k s H) H := by
  unfold binS
  split
  · split
    · exact det_nng fun _ => det_ret
    · exact det_nng fun _ => det_ret
    · split
      · exact det_binI
      · exact det_false
  · split <;> first | exact det_ret | exact det_and det_ret | exact det_false
  · exact det_false
theorem det_fillE {H : Hp} {es sz : Nat} : ∀ (ps : List (Nat × SV)) (l : List SV), Det (fun k => fillE es l ps fun l => match onesE l with | true => k (.lst true sz l) H | false => False) H
  | [], l => by
    simp only [fillE]
    split
    · exact det_ret
    · exact det_false
  | (i, s) :: r, l => by
    simp only [fillE]
    split
    · exact det_lf fun l => det_fillE r l
    · exact det_false
theorem det_ldC {i : TI} {cs : List SV} {o : Nat} {H : Hp} : Det (fun k => ldC i cs o fun s => k s H) H := by
  unfold ldC
  split
  · exact det_nd fun l => det_lf fun l => det_ret
  · exact det_nd fun l => det_ret
theorem det_lkS {kd : IntKind} {z : Int} {H : Hp} {F : Option SV → (SV → Hp → Prop) → Prop} (h : ∀ r, Det (F r) H) : ∀ kvs : List (Value × SV), Det (fun k => lkS kd z kvs fun r => F r k) H
  | [] => by simp only [lkS]; exact h _
  | (k0, s) :: r => by
    cases k0 <;> simp only [lkS] <;> try exact det_false
    split
    · exact det_cnd (h _) (det_lkS h r)
    · exact det_false
theorem det_opS {T : List TI} {P : Program} {op : Op} (hq : quietOp op = true) (E : Env) (H : Hp) : Det (opS T P op E H) H := by
  unfold opS
  split <;> first | (simp only [quietOp] at hq; cases hq; done) | skip
  · exact det_nd fun _ => det_ret
  · exact det_nd fun _ => det_ret
  · refine det_nd fun s => ?_
    split
    · exact det_cnd (det_nd fun _ => det_ret) (det_nd fun _ => det_ret)
    · exact det_false
  · refine det_nd fun i => ?_
    split
    · exact det_nd fun z => det_nd fun ps => det_fill _ _
    · exact det_nd fun z => det_nd fun ps => det_fill _ _
    · exact det_false
  · refine det_nd fun i => ?_
    split
    · refine det_nd fun _ => det_nd fun z => det_nd fun z0 => det_nd fun ps => ?_
      split
      · exact det_fillE _ _
      · exact det_false
    · exact det_false
  · refine det_nd fun i => det_nd fun s => ?_
    unfold ldS
    split
    · refine det_nd fun x => ?_
      split
      · exact det_ldC
      · exact det_false
    · exact det_ldC
    · exact det_nd fun r => det_and (det_ex fun m => det_ex fun f => det_and (det_nd fun e => det_ldC))
    · exact det_false
  · refine det_nd fun s => ?_
    split <;> first | exact det_ret | exact det_false
  · refine det_nd fun s => det_nd fun u => ?_
    split
    · rintro k ⟨b, h1, h4⟩
      exact ⟨_, h4, fun k' hk' => ⟨b, h1, hk'⟩⟩
    · refine det_nd fun i => ?_
      split <;> first | exact det_ret | exact det_false
    · refine det_nd fun i => ?_
      split <;> first | exact det_ret | exact det_false
    · refine det_nd fun i => ?_
      split <;> first | exact det_ret | exact det_false
    · exact det_binS
  · refine det_nd fun s => ?_
    unfold unS
    split <;> first | exact det_ret | exact det_false
  · refine det_nd fun _ => det_nd fun i => det_nd fun s => ?_
    split
    · exact det_ret
    · exact det_ret
    · split
      · refine det_nd fun _ => ?_
        split
        · exact det_ex fun _ => det_and det_ret
        · exact det_false
      · exact det_false
    · split
      · refine det_nd fun _ => ?_
        split
        · exact det_nd fun _ => det_and (det_and (det_ex fun _ => det_and det_ret))
        · exact det_false
      · exact det_false
    · split
      · refine det_nd fun _ => ?_
        split
        · exact det_and det_ret
        · exact det_false
      · exact det_false
    · exact det_false
  · exact det_nd fun _ => det_nd fun _ => det_ret
  · refine det_nd fun i => det_nd fun s => ?_
    split <;> first | exact det_ret | exact det_false
  · refine det_nd fun s => ?_
    split
    · exact det_nd fun _ => det_ret
    · exact det_false
  · refine det_nd fun i => ?_
    split
    · refine det_nd fun p => ?_
      split
      · exact det_false
      · refine det_nd fun s => ?_
        split <;> first | exact det_ret | exact det_false
    · exact det_false
  · refine det_nd fun i => ?_
    split
    · refine det_nd fun p => det_nd fun s => ?_
      split
      · split
        · exact det_nd fun _ => det_lf fun _ => det_ret
        · exact det_nd fun _ => det_ret
      · exact det_false
    · exact det_false
  · refine det_nd fun i => det_nd fun s => det_nd fun y => ?_
    split
    · refine det_inb fun m => ?_
      split
      · exact det_nd fun _ => det_lf fun _ => det_ret
      · exact det_nd fun _ => det_ret
    · exact det_inb fun _ => det_ret
    · exact det_false
  · refine det_nd fun i => det_nd fun s => det_nd fun y => ?_
    split
    · exact det_inb fun _ => det_ret
    · exact det_inb fun _ => det_and (det_nd fun _ => det_lf fun _ => det_ret)
    · exact det_inb fun _ => det_nd fun _ => det_ret
    · exact det_false
  · refine det_nd fun i => det_nd fun s => det_nd fun lo => det_nd fun hi => det_nd fun mx => ?_
    split
    · split
      · exact det_bnd fun _ => det_bnd fun _ => det_ret
      · exact det_false
    · split
      · exact det_bnd fun _ => det_bnd fun _ => det_ret
      · refine det_bnd fun _ => det_bnd fun _ => det_bnd fun _ => ?_
        split <;> first | exact det_ret | exact det_false
    · refine det_and ?_
      split
      · exact det_bnd fun _ => det_bnd fun _ => det_ret
      · refine det_bnd fun _ => det_bnd fun _ => det_bnd fun _ => ?_
        split <;> first | exact det_ret | exact det_false
    · exact det_false
  · rename_i op t m x ok
    refine det_nd fun i => det_nd fun p => det_nd fun ik => det_nd fun ie => det_nd fun s => det_nd fun sk => ?_
    split
    · split
      · refine det_nd fun bx => ?_
        split
        · refine det_lkS (fun r => ?_) _
          cases r with
          | some s => cases ok <;> exact det_ret
          | none => exact det_nd fun z => det_nd fun s => by cases ok <;> exact det_ret
        · exact det_false
      · exact det_false
    · exact det_false
theorem agn_opS {T : List TI} {P : Program} {op : Op} (hq : agnOp op = true) (E : Env) (H H' : Hp) {k : SV → Prop} (h : opS T P op E H fun s _ => k s) : opS T P op E H' fun s _ => k s := by
  cases op <;> first | (simp only [agnOp] at hq; cases hq; done) | exact h
def quietB : Builtin → Bool
  | .len | .min | .max | .cap => true
  | _ => false
/-- A call that only tells a value. -/
structure CallQ (P : Program) (f : FuncId) (l : List SV) (H : Hp) (k : SV → Prop) : Prop where
  ex : ∃ r0, Tr P f l H (fun r H' => r = r0 ∧ H' = H) ∧ k r0
theorem CallQ.of {P : Program} {f : FuncId} {l l' : List SV} {H : Hp} {k : SV → Prop} {r0 : SV} (h : Fc P f l' r0) (hl : lePL l l') (hk : k r0) : CallQ P f l H k := ⟨r0, Fc.use h hl ⟨rfl, rfl⟩, hk⟩
theorem CallQ.tr {P : Program} {f : FuncId} {l : List SV} {H : Hp} {k : SV → Prop} {r0 : SV} (h : Tr P f l H (fun r H' => r = r0 ∧ H' = H)) (hk : k r0) : CallQ P f l H k := ⟨r0, h, hk⟩
def opQ (T : List TI) (P : Program) (o : Oper) (E : Env) (H : Hp) (k : SV → Prop) : Prop :=
  match o.op with
  | .call c => match c.callee with
    | .value f => nd (ev E f) fun s => nd (evs E c.args.toList) fun as => match s with
      | .clo (.func g) a cs => lf (a ++ as ++ cs) fun l => CallQ P g l H k
      | _ => False
    | .builtin b => match quietB b with
      | true => nd (evs E c.args.toList) fun as => bltS T P b c.argTypes.toList as H fun s _ => k s
      | false => False
    | .invoke r m => nd (ev E r) fun s => nd (evs E c.args.toList) fun as => match s with
      | .ifc t x => ∃ g, methOf P t m = some g ∧ lf (x :: as) fun l => CallQ P g l H k
      | _ => False
  | op => match quietOp op with
    | true => opS T P op E H fun s _ => k s
    | false => False
def stepQ (T : List TI) (P : Program) (ops : List Oper) (o : Oper) (E : Env) (H : Hp) (k : SV → Prop) : Prop :=
  match o.guard with
  | none => opQ T P o E H k
  | some (j, want) => nd (dstOf ops j) fun d => nd (get E.ts d) fun g => match g with
    | .v (.bool b) => match want with
      | true => cnd b (opQ T P o E H k) (k (.v undef))
      | false => cnd b (k (.v undef)) (opQ T P o E H k)
    | .v (.tuple _) => k (.v undef)
    | _ => False
/-- The edges that bind in every order. -/
def bnds : List Edge → List Edge
  | [] => []
  | e :: r => match e.ground with
    | .textOnly _ => bnds r
    | .gcOnly _ => bnds r
    | _ => e :: bnds r
theorem bnds_mem : ∀ {l : List Edge} {e : Edge}, e ∈ bnds l → e ∈ l
  | [], _, h => by simp [bnds] at h
  | x :: r, e, h => by
    simp only [bnds] at h
    split at h
    · exact List.mem_cons_of_mem _ (bnds_mem h)
    · exact List.mem_cons_of_mem _ (bnds_mem h)
    · rcases List.mem_cons.1 h with rfl | h
      · exact List.mem_cons_self ..
      · exact List.mem_cons_of_mem _ (bnds_mem h)
theorem bnds_of : ∀ {l : List Edge} {e : Edge}, e ∈ l → Region.binds .any e = true → e ∈ bnds l
  | [], _, h, _ => by simp at h
  | x :: r, e, h, hb => by
    simp only [bnds]
    rcases List.mem_cons.1 h with rfl | h
    · unfold Region.binds at hb
      split
      · rename_i r' hr; rw [hr] at hb; cases hb
      · rename_i r' hr; rw [hr] at hb; cases hb
      · exact List.mem_cons_self ..
    · split
      · exact bnds_of h hb
      · exact bnds_of h hb
      · exact List.mem_cons_of_mem _ (bnds_of h hb)
def depTs (ops : List Oper) (σ : List SV) : List Edge → List (Nat × SV) → List (Nat × SV)
  | [], E => E
  | e :: r, E => match dstOf ops e.on with
    | some d => match nth σ e.on with
      | some s => (d, s) :: depTs ops σ r E
      | none => depTs ops σ r E
    | none => depTs ops σ r E
def dsts : List Oper → List Nat
  | [] => []
  | o :: r => match o.dst with
    | some d => d :: dsts r
    | none => dsts r
def isIn : Nat → List Nat → Bool
  | _, [] => false
  | d, x :: r => match Nat.beq d x with | true => true | false => isIn d r
def dups : List Nat → Bool
  | [] => false
  | x :: r => match isIn x r with | true => true | false => dups r
def edgeOk (i : Nat) : List Edge → Bool
  | [] => true
  | e :: r => match e.ground with
    | .textOnly _ => false
    | .gcOnly _ => false
    | _ => match Nat.blt e.on i with | true => edgeOk i r | false => false
def edgesOk : Nat → List Oper → Bool
  | _, [] => true
  | i, o :: r => match edgeOk i (bnds o.after.toList) with | true => edgesOk (i + 1) r | false => false
def allBelow (n : Nat) : List Nat → Bool
  | [] => true
  | x :: r => match Nat.blt x n with | true => allBelow n r | false => false
def parOk (n : Nat) (ops : List Oper) : Bool :=
  match dups (dsts ops) with
  | true => false
  | false => match edgesOk 0 ops with
    | true => allBelow n (dsts ops)
    | false => false
def eraseE (ds : List Nat) : List (Nat × SV) → List (Nat × SV)
  | [] => []
  | (t, s) :: r => match isIn t ds with | true => eraseE ds r | false => (t, s) :: eraseE ds r
def fullE : List Oper → List SV → List (Nat × SV) → List (Nat × SV)
  | o :: r, s :: σ, E => match o.dst with
    | some d => (d, s) :: fullE r σ E
    | none => fullE r σ E
  | _, _, E => E
theorem isIn_eq {d : Nat} : ∀ {l : List Nat}, isIn d l = true ↔ d ∈ l
  | [] => by simp [isIn]
  | x :: r => by
    simp only [isIn, List.mem_cons]
    split
    · rename_i h; simp [Nat.eq_of_beq_eq_true h]
    · rename_i h; rw [isIn_eq]; have := Nat.ne_of_beq_eq_false h; simp [this]
theorem dups_eq : ∀ {l : List Nat}, dups l = false → l.Nodup
  | [], _ => List.nodup_nil
  | x :: r, h => by
    simp only [dups] at h
    split at h
    · cases h
    · rename_i hx
      exact List.nodup_cons.2 ⟨(fun hm => by rw [isIn_eq.2 hm] at hx; cases hx), dups_eq h⟩
theorem edgeOk_eq {i : Nat} : ∀ {l : List Edge}, edgeOk i l = true → ∀ e ∈ l, Region.binds .any e = true ∧ e.on < i
  | [], _, e, he => by simp at he
  | x :: r, h, e, he => by
    simp only [edgeOk] at h
    split at h
    · cases h
    · cases h
    · rename_i h1 h2
      split at h
      · rename_i hb
        rcases List.mem_cons.1 he with rfl | he
        · refine ⟨?_, by rw [Nat.blt_eq] at hb; exact hb⟩
          unfold Region.binds
          split
          · rename_i r' hr; exact absurd hr (h1 r')
          · rename_i r' hr; exact absurd hr (h2 r')
          · rfl
        · exact edgeOk_eq h e he
      · cases h
theorem edgesOk_eq : ∀ {l : List Oper} {i0 : Nat}, edgesOk i0 l = true → ∀ (i : Nat) (o : Oper), l[i]? = some o → ∀ e ∈ (bnds o.after.toList), Region.binds .any e = true ∧ e.on < i0 + i
  | [], _, _, i, o, h => by simp at h
  | x :: r, i0, h, i, o, ho => by
    simp only [edgesOk] at h
    split at h
    · rename_i hx
      cases i with
      | zero => simp at ho; subst ho; exact fun e he => edgeOk_eq hx e he
      | succ i =>
        simp at ho
        intro e he
        have := edgesOk_eq h i o ho e he
        exact ⟨this.1, by omega⟩
    · cases h
theorem allBelow_eq {n : Nat} : ∀ {l : List Nat}, allBelow n l = true → ∀ d ∈ l, d < n
  | [], _, d, h => by simp at h
  | x :: r, h, d, hd => by
    simp only [allBelow] at h
    split at h
    · rename_i hx
      rcases List.mem_cons.1 hd with rfl | hd
      · rw [Nat.blt_eq] at hx; exact hx
      · exact allBelow_eq h d hd
    · cases h
theorem mem_dsts : ∀ {l : List Oper} {i : Nat} {o : Oper} {d : Nat}, l[i]? = some o → o.dst = some d → d ∈ dsts l
  | [], _, _, _, h, _ => by simp at h
  | x :: r, i, o, d, h, hd => by
    cases i with
    | zero => simp at h; subst h; simp [dsts, hd]
    | succ i =>
      simp at h
      have := mem_dsts h hd
      simp only [dsts]
      split
      · exact List.mem_cons_of_mem _ this
      · exact this
theorem dst_inj : ∀ {l : List Oper}, (dsts l).Nodup → ∀ {i j : Nat} {o p : Oper} {d : Nat}, l[i]? = some o → l[j]? = some p → o.dst = some d → p.dst = some d → i = j
  | [], _, i, j, o, p, d, h, _, _, _ => by simp at h
  | x :: r, hn, i, j, o, p, d, hi, hj, ho, hp => by
    cases i with
    | zero =>
      cases j with
      | zero => rfl
      | succ j =>
        simp at hi hj
        subst hi
        simp only [dsts, ho] at hn
        exact absurd (mem_dsts hj hp) (List.nodup_cons.1 hn).1
    | succ i =>
      cases j with
      | zero =>
        simp at hi hj
        subst hj
        simp only [dsts, hp] at hn
        exact absurd (mem_dsts hi ho) (List.nodup_cons.1 hn).1
      | succ j =>
        simp at hi hj
        have hn' : (dsts r).Nodup := by
          simp only [dsts] at hn
          split at hn
          · exact (List.nodup_cons.1 hn).2
          · exact hn
        rw [dst_inj hn' hi hj ho hp]
theorem eraseE_get {ds : List Nat} : ∀ {E : List (Nat × SV)} {t : Nat} {s : SV}, get (eraseE ds E) t = some s → get E t = some s ∧ t ∉ ds
  | [], _, _, h => by simp [eraseE, get] at h
  | (u, s') :: r, t, s, h => by
    simp only [eraseE] at h
    split at h
    · rename_i hu
      obtain ⟨h1, h2⟩ := eraseE_get h
      refine ⟨?_, h2⟩
      simp only [get]
      have : Nat.beq u t = false := by
        cases hb : Nat.beq u t with
        | false => rfl
        | true => exact absurd (Nat.eq_of_beq_eq_true hb ▸ isIn_eq.1 hu) h2
      rw [this]; exact h1
    · rename_i hu
      simp only [get] at h ⊢
      split at h
      · rename_i hb
        have hb' := Nat.eq_of_beq_eq_true hb
        subst hb'
        exact ⟨h, fun hm => by rw [isIn_eq.2 hm] at hu; cases hu⟩
      · rename_i hb
        exact eraseE_get h

theorem fullE_get : ∀ {ops : List Oper} {σ : List SV} {E : List (Nat × SV)} {t : Nat} {s : SV}, get (fullE ops σ E) t = some s → (∃ (j : Nat) (o : Oper), ops[j]? = some o ∧ o.dst = some t ∧ σ[j]? = some s) ∨ get E t = some s
  | [], σ, E, t, s, h => .inr (by simpa [fullE] using h)
  | o :: r, [], E, t, s, h => .inr (by simpa [fullE] using h)
  | o :: r, u :: σ, E, t, s, h => by
    simp only [fullE] at h
    have rec_ : get (fullE r σ E) t = some s → (∃ (j : Nat) (p : Oper), (o :: r)[j]? = some p ∧ p.dst = some t ∧ (u :: σ)[j]? = some s) ∨ get E t = some s := by
      intro h
      rcases fullE_get h with ⟨j, p, h1, h2, h3⟩ | h
      · exact .inl ⟨j + 1, p, by simpa using h1, h2, by simpa using h3⟩
      · exact .inr h
    split at h
    · rename_i d hd
      simp only [get] at h
      split at h
      · rename_i hb
        injection h with h; subst h
        exact .inl ⟨0, o, rfl, by rw [hd, Nat.eq_of_beq_eq_true hb], rfl⟩
      · exact rec_ h
    · exact rec_ h
theorem depTs_get {ops : List Oper} {σ : List SV} : ∀ {l : List Edge} {E : List (Nat × SV)} {t : Nat} {s : SV}, get (depTs ops σ l E) t = some s →
    (∃ e ∈ l, ∃ o, ops[e.on]? = some o ∧ o.dst = some t ∧ σ[e.on]? = some s) ∨ get E t = some s
  | [], E, t, s, h => .inr (by simpa [depTs] using h)
  | e :: r, E, t, s, h => by
    simp only [depTs] at h
    have rec_ : get (depTs ops σ r E) t = some s → (∃ e' ∈ e :: r, ∃ o, ops[e'.on]? = some o ∧ o.dst = some t ∧ σ[e'.on]? = some s) ∨ get E t = some s := by
      intro h
      rcases depTs_get h with ⟨e', he, h⟩ | h
      · exact .inl ⟨e', by simp [he], h⟩
      · exact .inr h
    split at h
    · rename_i d hd
      rw [dstOf_eq] at hd
      obtain ⟨o, ho, hod⟩ := Option.bind_eq_some_iff.1 hd
      split at h
      · rename_i u hu
        rw [nth_eq] at hu
        simp only [get] at h
        split at h
        · rename_i hb
          injection h with h; subst h
          exact .inl ⟨e, by simp, o, ho, by rw [hod, Nat.eq_of_beq_eq_true hb], hu⟩
        · exact rec_ h
      · exact rec_ h
    · exact rec_ h


section
variable {P : Program} {T : List TI}
theorem det_foldI {H : Hp} (b : Builtin) (kd : IntKind) : ∀ (l : List SV) (x : Int), Det (fun k => foldI b kd x l fun z => k (.v (.int kd z)) H) H
  | [], x => by simp only [foldI]; exact det_ret
  | s :: r, x => by
    simp only [foldI]
    split
    · split
      · exact det_foldI b kd r _
      · exact det_false
    · exact det_false
theorem det_bltS {b : Builtin} (hb : quietB b = true) (ts : List TypeId) (as : List SV) (H : Hp) : Det (bltS T P b ts as H) H := by
  unfold bltS
  split <;> first | (simp only [quietB] at hb; cases hb; done) | skip
  · refine det_nd fun t => det_nd fun i => ?_
    split <;> first | exact det_ret | exact det_false
  · split
    · exact det_foldI _ _ _ _
    · exact det_false
  · split
    · exact det_foldI _ _ _ _
    · exact det_false
  · refine det_nd fun t => det_nd fun i => ?_
    split <;> first | exact det_ret | exact det_false
theorem opC_of_opS {o : Oper} {E : Env} {H : Hp} {k : SV → Hp → Prop} (hnc : ∀ c, o.op ≠ .call c) (h : opS T P o.op E H k) : opC T P o E H k := by
  unfold opC
  split
  · rename_i op' c he; exact absurd he (hnc c)
  · rename_i op' op t x y z he
    rw [he] at h
    unfold nilC
    split
    · rename_i hy
      split
      · rename_i f sz es hx
        unfold opS at h
        simp only [hx, hy, nd, binS] at h
      · exact h
    · exact h
  · exact h
theorem opQ_det {o : Oper} {E : Env} {H : Hp} {k : SV → Prop} (h : opQ T P o E H k) :
    ∃ s, k s ∧ (∀ k' : SV → Prop, k' s → opQ T P o E H k') ∧ opC T P o E H (fun s' H' => s' = s ∧ H' = H) := by
  unfold opQ at h
  split at h
  · rename_i op c he
    split at h
    · rename_i cal f hc
      replace h := nd_elim h
      obtain ⟨s, hs, h⟩ := h
      replace h := nd_elim h
      obtain ⟨as, has, h⟩ := h
      split at h
      · rename_i g l1 l2
        rw [lf_eq] at h
        obtain ⟨r0, h2, h3⟩ := h
        refine ⟨r0, h3, fun k' hk' => ?_, ?_⟩
        · unfold opQ
          simp only [he, hc, hs, has, nd, lf_eq]
          exact ⟨r0, h2, hk'⟩
        · unfold opC callS
          simp only [he, hc, hs, has, nd, lf_eq]
          exact h2
      · exact h.elim
    · rename_i b hc
      split at h
      · rename_i hb
        replace h := nd_elim h
        obtain ⟨as, has, h⟩ := h
        obtain ⟨s, h1, h2⟩ := det_bltS hb _ _ _ _ h
        refine ⟨s, h1, fun k' hk' => ?_, ?_⟩
        · unfold opQ
          simp only [he, hc, hb, has, nd]
          exact h2 (fun s _ => k' s) hk'
        · unfold opC callS
          simp only [he, hc, has, nd]
          exact h2 _ ⟨rfl, rfl⟩
      · exact h.elim
    · rename_i rc m hc
      replace h := nd_elim h
      obtain ⟨s, hs, h⟩ := h
      replace h := nd_elim h
      obtain ⟨as, has, h⟩ := h
      split at h
      · rename_i t x
        obtain ⟨g, hg, h⟩ := h
        rw [lf_eq] at h
        obtain ⟨r0, h2, h3⟩ := h
        refine ⟨r0, h3, fun k' hk' => ?_, ?_⟩
        · unfold opQ
          simp only [he, hc, hs, has, nd, lf_eq]
          exact ⟨g, hg, r0, h2, hk'⟩
        · unfold opC callS
          simp only [he, hc, hs, has, nd, lf_eq]
          exact ⟨g, hg, h2⟩
      · exact h.elim
  · rename_i op hne
    split at h
    · rename_i hq
      obtain ⟨s, h1, h2⟩ := det_opS hq E H _ h
      refine ⟨s, h1, fun k' hk' => ?_, ?_⟩
      · have h3 := h2 (fun s _ => k' s) hk'
        have e : opQ T P o E H k' = opS T P o.op E H (fun s _ => k' s) := by
          unfold opQ
          split
          · rename_i op' c he; exact absurd he (by intro e; rw [e] at hq; cases hq)
          · rw [hq]
        rw [e]; exact h3
      · exact opC_of_opS (fun c he => by rw [he] at hq; cases hq) (h2 (fun s' H' => s' = s ∧ H' = H) ⟨rfl, rfl⟩)
    · exact h.elim
theorem stepQ_det {ops : List Oper} {o : Oper} {E : Env} {H : Hp} {k : SV → Prop} (h : stepQ T P ops o E H k) : ∃ s, k s ∧ ∀ k' : SV → Prop, k' s → stepQ T P ops o E H k' := by
  unfold stepQ at h
  split at h
  · rename_i hg
    obtain ⟨s, h1, h2, _⟩ := opQ_det h
    exact ⟨s, h1, fun k' hk' => by unfold stepQ; simp only [hg]; exact h2 k' hk'⟩
  · rename_i j want hg
    replace h := nd_elim h
    obtain ⟨d, hd, h⟩ := h
    replace h := nd_elim h
    obtain ⟨g, hgt, h⟩ := h
    split at h
    · rename_i b
      split at h
      · rcases cnd_elim h with ⟨rfl, h⟩ | ⟨rfl, h⟩
        · obtain ⟨s, h1, h2, _⟩ := opQ_det h
          exact ⟨s, h1, fun k' hk' => by unfold stepQ; simp only [hg, hd, hgt, nd]; exact h2 k' hk'⟩
        · exact ⟨_, h, fun k' hk' => by unfold stepQ; simp only [hg, hd, hgt, nd]; exact hk'⟩
      · rcases cnd_elim h with ⟨rfl, h⟩ | ⟨rfl, h⟩
        · exact ⟨_, h, fun k' hk' => by unfold stepQ; simp only [hg, hd, hgt, nd]; exact hk'⟩
        · obtain ⟨s, h1, h2, _⟩ := opQ_det h
          exact ⟨s, h1, fun k' hk' => by unfold stepQ; simp only [hg, hd, hgt, nd]; exact h2 k' hk'⟩
    · exact ⟨_, h, fun k' hk' => by unfold stepQ; simp only [hg, hd, hgt, nd]; exact hk'⟩
    · exact h.elim
/-- One step of a region, in whatever order. -/
theorem stepQ_wp (hT : TabOk T P) {ro : Option Nat} {n b0 : Nat} {β : Gh} {E : Env} {H : Hp} {a : Act} {w : World} (R : RepA n b0 β E H a w) {ops : Array Oper} {i : Nat} {o : Oper} (ho : ops[i]? = some o) {k : SV → Prop}
    (h : stepQ T P ops.toList o E H k) {next : Act → World → Prop} {Q : Exit → Act → World → Prop}
    (hk : ∀ β' s y w', Den β' s y → Rep β' H w' → Ext β H w β' H w' → k s → next (a.put o.dst y) w') : wpOpIn (W0 ro) 0 P ops Q i next a w := by
  have op : opQ T P o E H k → o.wpIn (W0 ro) 0 P a w next Q := by
    intro h
    have hnd : ∀ c, o.op ≠ .defer c := by
      intro c e
      unfold opQ at h
      rw [e] at h
      exact h
    obtain ⟨s, hs, _, hC⟩ := opQ_det h
    refine opC_wp hT R hnd hC ?_
    rintro β' s' y H' w' hd R' X' ⟨rfl, rfl⟩
    exact hk β' s' y w' hd R' X' hs
  unfold wpOpIn
  simp only [ho]
  unfold stepQ at h
  split at h
  · rename_i hg
    rw [if_pos (by simp [Region.wanted, hg])]
    exact op h
  · rename_i j want hg
    replace h := nd_elim h
    obtain ⟨d, hd, h⟩ := h
    replace h := nd_elim h
    obtain ⟨g, hgt, h⟩ := h
    obtain ⟨y, hy, hdy⟩ := R.env d g hgt
    rw [dstOf_eq] at hd
    have hd' : (ops[j]?).bind (·.dst) = some d := by simpa using hd
    have hyd : yielded ops a.tmps j = match y with | .bool b => some b | _ => none := by
      unfold yielded
      rw [hd']
      simp only [Option.bind_some, hy]
      cases y <;> rfl
    have skip : k (.v undef) → (∀ f, o.about P w a.eval = some f → (W0 ro).fn f) ∧ next (a.put o.dst undef) w := fun h => ⟨fun _ _ => trivial, hk β (.v undef) undef w rfl R.rep (Ext.refl _ _ _) h⟩
    split at h
    · rename_i b
      simp only [Den] at hdy
      subst hdy
      simp only at hyd
      have hw : Region.wanted o (yielded ops a.tmps) = (b == want) := by
        simp only [Region.wanted, hg, hyd]
        cases b <;> cases want <;> rfl
      split at h
      · rcases cnd_elim h with ⟨rfl, h⟩ | ⟨rfl, h⟩
        · rw [if_pos (by rw [hw]; rfl)]; exact op h
        · rw [if_neg (by rw [hw]; simp)]; exact skip h
      · rcases cnd_elim h with ⟨rfl, h⟩ | ⟨rfl, h⟩
        · rw [if_neg (by rw [hw]; simp)]; exact skip h
        · rw [if_pos (by rw [hw]; rfl)]; exact op h
    · rename_i ts
      simp only [Den] at hdy
      subst hdy
      simp only at hyd
      rw [if_neg (by simp [Region.wanted, hg, hyd])]
      exact skip h
    · exact h.elim
theorem depTs_congr {ops : List Oper} {σ σ' : List SV} : ∀ {l : List Edge} {E : List (Nat × SV)}, (∀ e ∈ l, nth σ e.on = nth σ' e.on) → depTs ops σ l E = depTs ops σ' l E
  | [], _, _ => rfl
  | e :: r, E, h => by
    simp only [depTs]
    rw [h e (by simp), depTs_congr (fun e he => h e (by simp [he]))]
end
/-- Whoever is listed waits for none that is not. -/
def Down (ops : List Oper) (listed : Array Bool) : Prop := ∀ (j : Nat) (o : Oper), ops[j]? = some o → listed[j]? = some true → ∀ e ∈ (bnds o.after.toList), listed[e.on]? = some true
theorem ready_nil {ops : Array Oper} {listed : Array Bool} (hok : edgesOk 0 ops.toList = true) (hs : listed.size = ops.size) (hr : Region.ready .any ops listed = []) : ∀ j, j < ops.size → listed[j]? = some true := by
  intro j
  induction j using Nat.strongRecOn with
  | _ j ih =>
    intro hj
    have hlt : j < listed.size := by omega
    cases hb : listed[j]'hlt with
    | true => rw [Array.getElem?_eq_getElem hlt, hb]
    | false =>
      exfalso
      have : j ∈ Region.ready .any ops listed := by
        rw [mem_ready]
        refine ⟨by simp [Array.getD, hlt, hb], ops[j], Array.getElem?_eq_getElem hj, fun e he hbd => ?_⟩
        have h1 := edgesOk_eq hok j ops[j] (by simp [hj]) e (bnds_of (by simpa using he) hbd)
        have h2 := ih e.on (by omega) (by omega)
        have h3 : e.on < listed.size := by omega
        rw [Array.getElem?_eq_getElem h3] at h2
        simp [Array.getD, h3]
        exact Option.some.inj h2
      rw [hr] at this
      cases this

theorem on_of {l : List Edge} {j : Nat} (h : isIn j (l.map (·.on)) = true) : ∃ e ∈ l, e.on = j := by
  obtain ⟨e, he, h2⟩ := List.mem_map.1 (isIn_eq.1 h)
  exact ⟨e, he, h2⟩
theorem set_true {listed : Array Bool} {i j : Nat} (h : listed[j]? = some true) : (listed.setIfInBounds i true)[j]? = some true := by
  have hlt := (Array.getElem?_eq_some_iff.1 h).1
  rw [Array.getElem?_setIfInBounds]
  split
  · rename_i e; subst e; simp [hlt]
  · exact h
theorem Down.set {ops : List Oper} {listed : Array Bool} (h : Down ops listed) {i : Nat} {o : Oper} (ho : ops[i]? = some o) (hi : ∀ e ∈ (bnds o.after.toList), listed[e.on]? = some true) : Down ops (listed.setIfInBounds i true) := by
  intro j p hp hj e he
  by_cases hij : i = j
  · subst hij
    rw [ho] at hp
    injection hp with hp
    subst hp
    exact set_true (hi e he)
  · rw [Array.getElem?_setIfInBounds, if_neg hij] at hj
    exact set_true (h j p hp hj e he)
end Go.Sy

/- Sy, part O: the rule for a region that draws its order: operations that tell values, in any order, among others that change the state, one behind the other. -/
namespace Go.Sy
open Go

/-- Does it change the state? -/
def effO (o : Oper) : Bool :=
  match o.op, o.guard with
  | .store .., none | .alloc _, none | .box .., none => true
  | _, _ => false
/-- How many that change the state stand ahead of a place. -/
def stg (ops : List Oper) : Nat → Nat
  | 0 => 0
  | i + 1 => match ops[i]? with
    | some o => match effO o with | true => stg ops i + 1 | false => stg ops i
    | none => stg ops i
theorem stg_succ {ops : List Oper} {i : Nat} {o : Oper} (h : ops[i]? = some o) : stg ops (i + 1) = if effO o = true then stg ops i + 1 else stg ops i := by
  simp only [stg, h]; cases effO o <;> rfl
theorem stg_mono (ops : List Oper) : ∀ {i j : Nat}, i ≤ j → stg ops i ≤ stg ops j := by
  intro i j h
  induction h with
  | refl => exact Nat.le_refl _
  | step h ih =>
    refine Nat.le_trans ih ?_
    rename_i m
    simp only [stg]
    split
    · split <;> omega
    · exact Nat.le_refl _
theorem stg_inj {ops : List Oper} {i j : Nat} {o p : Oper} (hi : ops[i]? = some o) (hj : ops[j]? = some p) (ho : effO o = true) (hp : effO p = true) (h : stg ops i = stg ops j) : i = j := by
  rcases Nat.lt_trichotomy i j with hlt | heq | hgt
  · have h1 := stg_mono ops (show i + 1 ≤ j from hlt)
    rw [stg_succ hi, if_pos ho] at h1; omega
  · exact heq
  · have h1 := stg_mono ops (show j + 1 ≤ i from hgt)
    rw [stg_succ hj, if_pos hp] at h1; omega
def DetE (F : (SV → Hp → Prop) → Prop) : Prop := ∀ k, F k → ∃ s H', k s H' ∧ ∀ k', k' s H' → F k'
theorem detE_nd {α : Type} {o : Option α} {F : α → (SV → Hp → Prop) → Prop} (h : ∀ a, DetE (F a)) : DetE (fun k => nd o fun a => F a k) := by
  intro k hk
  obtain ⟨a, rfl, hk⟩ := nd_elim hk
  obtain ⟨s, H', h1, h2⟩ := h a k hk
  exact ⟨s, H', h1, fun k' hk' => h2 k' hk'⟩
theorem detE_eff {T : List TI} {P : Program} {o : Oper} (h : effO o = true) (E : Env) (H : Hp) : DetE (opC T P o E H) := by
  unfold effO at h
  unfold opC
  split at h
  · rename_i e1 e2
    simp only [e1, opS]
    refine detE_nd fun i => detE_nd fun s => detE_nd fun y => ?_
    intro k hk
    unfold stS at hk
    split at hk
    case h_2 => exact hk.elim
    rename_i hb1 hb2
    split at hk
    · replace hk := nd_elim hk
      obtain ⟨x, hx, hk⟩ := hk
      split at hk
      case h_2 => exact hk.elim
      replace hk := nd_elim hk
      obtain ⟨cs, hcs, hk⟩ := hk
      rw [lf_eq] at hk
      refine ⟨_, _, setBox_eq hk, fun k' hk' => ?_⟩
      unfold stS
      simp only [hb1, hb2, hx, nd, hcs, lf_eq]
      cases H
      simp only [setBox, lf_eq]
      exact hk'
    · replace hk := nd_elim hk
      obtain ⟨r, hr, hA, hf, m, f, hmf, hk⟩ := hk
      replace hk := nd_elim hk
      obtain ⟨e, he, hk⟩ := hk
      replace hk := nd_elim hk
      obtain ⟨e', he', hk⟩ := hk
      refine ⟨_, _, setRow_eq hk, fun k' hk' => ?_⟩
      unfold stS
      simp only [hb1, hb2, hr, nd]
      refine ⟨hA, hf, m, f, hmf, ?_⟩
      simp only [he, he']
      cases H
      simp only [setRow, lf_eq]
      exact hk'
    · exact hk.elim
  · rename_i e1 e2
    simp only [e1, opS]
    refine detE_nd fun i => detE_nd fun z => ?_
    intro k hk
    rw [lf_eq] at hk
    refine ⟨_, _, addBx_eq hk, fun k' hk' => ?_⟩
    cases H
    simp only [lf_eq, addBx]
    exact hk'
  · rename_i e1 e2
    simp only [e1, opS]
    refine detE_nd fun s => ?_
    intro k hk
    rw [lf_eq] at hk
    refine ⟨_, _, addBx_eq hk, fun k' hk' => ?_⟩
    cases H
    simp only [lf_eq, addBx]
    exact hk'
  · cases h
theorem eff_nodefer {o : Oper} (h : effO o = true) : o.guard = none ∧ (∀ c, o.op ≠ .defer c) := by
  unfold effO at h
  split at h
  · rename_i e1 e2; exact ⟨e2, fun c => by rw [e1]; simp⟩
  · rename_i e1 e2; exact ⟨e2, fun c => by rw [e1]; simp⟩
  · rename_i e1 e2; exact ⟨e2, fun c => by rw [e1]; simp⟩
  · cases h

/-- Does what it tells hang on the state? -/
def reads (o : Oper) : Bool :=
  match o.op with
  | .call c => match c.callee with
    | .builtin .min | .builtin .max => false
    | _ => true
  | op => !agnOp op
/-- In the text's order: what the operations tell, the states between those that change it. -/
noncomputable def vcText (T : List TI) (P : Program) (ops : List Oper) (Em : List (Nat × SV)) (Ds : List SV) (l : List Oper) : List SV → List Hp → Hp → (List SV → List Hp → Hp → Prop) → Prop :=
  List.rec (motive := fun _ => List SV → List Hp → Hp → (List SV → List Hp → Hp → Prop) → Prop) (fun σ Hs H K => K σ Hs H)
    (fun o _ next σ Hs H K => match effO o with
      | true => opC T P o ⟨depTs ops σ (bnds o.after.toList) Em, Ds⟩ H fun s H' => lf (σ ++ [s]) fun σ => lf (Hs ++ [H']) fun Hs => next σ Hs H' K
      | false => stepQ T P ops o ⟨depTs ops σ (bnds o.after.toList) Em, Ds⟩ H fun s => lf (σ ++ [s]) fun σ => next σ Hs H K) l
theorem vcText_cons {T : List TI} {P : Program} {ops : List Oper} {Em : List (Nat × SV)} {Ds : List SV} {o : Oper} {r : List Oper} {σ : List SV} {Hs : List Hp} {H : Hp} {K : List SV → List Hp → Hp → Prop} :
    vcText T P ops Em Ds (o :: r) σ Hs H K = (match effO o with
      | true => opC T P o ⟨depTs ops σ (bnds o.after.toList) Em, Ds⟩ H fun s H' => lf (σ ++ [s]) fun σ => lf (Hs ++ [H']) fun Hs => vcText T P ops Em Ds r σ Hs H' K
      | false => stepQ T P ops o ⟨depTs ops σ (bnds o.after.toList) Em, Ds⟩ H fun s => lf (σ ++ [s]) fun σ => vcText T P ops Em Ds r σ Hs H K) := rfl
/-- May it come up where j of those that change the state are done? -/
def loOk (ops : List Oper) (j : Nat) : List Edge → Bool
  | [] => true
  | e :: r => match ops[e.on]? with
    | some p => match effO p with
      | true => match Nat.blt (stg ops e.on) j with | true => loOk ops j r | false => false
      | false => loOk ops j r
    | none => loOk ops j r
def hiOk (ops : List Oper) (i j : Nat) : Nat → List Oper → Bool
  | _, [] => true
  | k, p :: r => match effO p with
    | true => match isIn i ((bnds p.after.toList).map (·.on)) with
      | true => match Nat.ble j (stg ops k) with | true => hiOk ops i j (k + 1) r | false => false
      | false => hiOk ops i j (k + 1) r
    | false => hiOk ops i j (k + 1) r
/-- What is asked of an operation that looks at the state: it tells the same wherever it may come up. -/
noncomputable def chkJ (T : List TI) (P : Program) (ops : List Oper) (i : Nat) (o : Oper) (E : Env) (s : SV) (k : Prop) (Hs : List Hp) : Nat → Prop :=
  List.rec (motive := fun _ => Nat → Prop) (fun _ => k)
    (fun H _ next j => match loOk ops j (bnds o.after.toList) with
      | true => match hiOk ops i j 0 ops with
        | true => stepQ T P ops o E H (fun s' => s' = s) ∧ next (j + 1)
        | false => next (j + 1)
      | false => next (j + 1)) Hs
noncomputable def chkI (T : List TI) (P : Program) (ops : List Oper) (Em : List (Nat × SV)) (Ds : List SV) (σ : List SV) (Hs : List Hp) (k : Prop) (l : List Oper) : Nat → Prop :=
  List.rec (motive := fun _ => Nat → Prop) (fun _ => k)
    (fun o _ next i => match effO o with
      | true => next (i + 1)
      | false => match reads o with
        | true => nd (nth σ i) fun s => chkJ T P ops i o ⟨depTs ops σ (bnds o.after.toList) Em, Ds⟩ s (next (i + 1)) Hs 0
        | false => next (i + 1)) l
/-- (If none changes the state, nothing is asked.) -/
noncomputable def chkA (T : List TI) (P : Program) (ops : List Oper) (Em : List (Nat × SV)) (Ds : List SV) (σ : List SV) (Hs : List Hp) (k : Prop) : Prop :=
  match Hs with
  | [_] => k
  | _ => chkI T P ops Em Ds σ Hs k ops 0
/-- Each that changes the state waits for the one ahead of it. -/
def chainOk (ops : List Oper) : Nat → List Oper → Bool
  | _, [] => true
  | i, o :: r => match effO o with
    | true => match Nat.beq (stg ops i) 0 with
      | true => chainOk ops (i + 1) r
      | false => match (bnds o.after.toList).any (fun e => match ops[e.on]? with | some p => effO p && Nat.beq (stg ops e.on + 1) (stg ops i) | none => false) with
        | true => chainOk ops (i + 1) r
        | false => false
    | false => chainOk ops (i + 1) r
def parOkG (n : Nat) (ops : List Oper) : Bool := match parOk n ops with | true => chainOk ops 0 ops | false => false

section
variable {P : Program} {T : List TI}
theorem loOk_of {ops : List Oper} {j : Nat} : ∀ {l : List Edge}, (∀ e ∈ l, ∀ p, ops[e.on]? = some p → effO p = true → stg ops e.on < j) → loOk ops j l = true
  | [], _ => rfl
  | e :: r, h => by
    simp only [loOk]
    have ih := loOk_of (l := r) fun e' he => h e' (List.mem_cons_of_mem _ he)
    split
    · rename_i p hp
      split
      · rename_i hep
        have := h e (List.mem_cons_self ..) p hp hep
        rw [show Nat.blt (stg ops e.on) j = true by rw [Nat.blt_eq]; exact this]
        exact ih
      · exact ih
    · exact ih
theorem hiOk_of {ops : List Oper} {i j : Nat} : ∀ {l : List Oper} (k : Nat), (∀ m p, l[m]? = some p → ops[k + m]? = some p) → (∀ m p, ops[m]? = some p → effO p = true → (∃ e ∈ bnds p.after.toList, e.on = i) → j ≤ stg ops m) → hiOk ops i j k l = true
  | [], _, _, _ => rfl
  | p :: r, k, hl, h => by
    simp only [hiOk]
    have hl' : ∀ m q, r[m]? = some q → ops[k + 1 + m]? = some q := fun m q hm => by rw [show k + 1 + m = k + (m + 1) by omega]; exact hl (m + 1) q hm
    have ih := hiOk_of (l := r) (k + 1) hl' h
    split
    · rename_i hep
      split
      · rename_i hin
        have h1 := h k p (by have := hl 0 p rfl; simpa using this) hep (on_of hin)
        rw [Nat.ble_eq_true_of_le h1]
        exact ih
      · exact ih
    · exact ih
theorem chkJ_elim {ops : List Oper} {i : Nat} {o : Oper} {E : Env} {s : SV} {k : Prop} : ∀ {Hs : List Hp} {j0 : Nat}, chkJ T P ops i o E s k Hs j0 → k ∧ ∀ (j : Nat) (H : Hp), Hs[j]? = some H → loOk ops (j0 + j) (bnds o.after.toList) = true → hiOk ops i (j0 + j) 0 ops = true → stepQ T P ops o E H (fun s' => s' = s)
  | [], j0, h => ⟨h, fun j H hj => by simp at hj⟩
  | H :: r, j0, h => by
    have h : (match loOk ops j0 (bnds o.after.toList) with
      | true => match hiOk ops i j0 0 ops with
        | true => stepQ T P ops o E H (fun s' => s' = s) ∧ chkJ T P ops i o E s k r (j0 + 1)
        | false => chkJ T P ops i o E s k r (j0 + 1)
      | false => chkJ T P ops i o E s k r (j0 + 1)) := h
    have tail : chkJ T P ops i o E s k r (j0 + 1) → (loOk ops j0 (bnds o.after.toList) = true → hiOk ops i j0 0 ops = true → stepQ T P ops o E H (fun s' => s' = s)) →
        k ∧ ∀ (j : Nat) (H' : Hp), (H :: r)[j]? = some H' → loOk ops (j0 + j) (bnds o.after.toList) = true → hiOk ops i (j0 + j) 0 ops = true → stepQ T P ops o E H' (fun s' => s' = s) := by
      intro h1 h2
      obtain ⟨h3, h4⟩ := chkJ_elim h1
      refine ⟨h3, fun j H' hj hl hh => ?_⟩
      cases j with
      | zero => simp at hj; subst hj; exact h2 hl hh
      | succ j => simp at hj; exact h4 j H' hj (by rw [show j0 + 1 + j = j0 + (j + 1) by omega]; exact hl) (by rw [show j0 + 1 + j = j0 + (j + 1) by omega]; exact hh)
    split at h
    · split at h
      · exact tail h.2 fun _ _ => h.1
      · rename_i hf; exact tail h fun _ hh => by rw [hh] at hf; cases hf
    · rename_i hf; exact tail h fun hl _ => by rw [hl] at hf; cases hf
theorem chkI_elim {ops : List Oper} {Em : List (Nat × SV)} {Ds : List SV} {σ : List SV} {Hs : List Hp} {k : Prop} : ∀ {l : List Oper} {i0 : Nat}, chkI T P ops Em Ds σ Hs k l i0 → k ∧ ∀ (i : Nat) (o : Oper) (s : SV), l[i]? = some o → effO o = false → reads o = true → σ[i0 + i]? = some s →
    ∀ (j : Nat) (H : Hp), Hs[j]? = some H → loOk ops j (bnds o.after.toList) = true → hiOk ops (i0 + i) j 0 ops = true → stepQ T P ops o ⟨depTs ops σ (bnds o.after.toList) Em, Ds⟩ H (fun s' => s' = s)
  | [], i0, h => ⟨h, fun i o s ho => by simp at ho⟩
  | o :: r, i0, h => by
    have h : (match effO o with
      | true => chkI T P ops Em Ds σ Hs k r (i0 + 1)
      | false => match reads o with
        | true => nd (nth σ i0) fun s => chkJ T P ops i0 o ⟨depTs ops σ (bnds o.after.toList) Em, Ds⟩ s (chkI T P ops Em Ds σ Hs k r (i0 + 1)) Hs 0
        | false => chkI T P ops Em Ds σ Hs k r (i0 + 1)) := h
    have tail : chkI T P ops Em Ds σ Hs k r (i0 + 1) → (∀ s, effO o = false → reads o = true → σ[i0]? = some s → ∀ (j : Nat) (H : Hp), Hs[j]? = some H → loOk ops j (bnds o.after.toList) = true → hiOk ops i0 j 0 ops = true → stepQ T P ops o ⟨depTs ops σ (bnds o.after.toList) Em, Ds⟩ H (fun s' => s' = s)) →
        k ∧ ∀ (i : Nat) (o' : Oper) (s : SV), (o :: r)[i]? = some o' → effO o' = false → reads o' = true → σ[i0 + i]? = some s →
          ∀ (j : Nat) (H : Hp), Hs[j]? = some H → loOk ops j (bnds o'.after.toList) = true → hiOk ops (i0 + i) j 0 ops = true → stepQ T P ops o' ⟨depTs ops σ (bnds o'.after.toList) Em, Ds⟩ H (fun s' => s' = s) := by
      intro h1 h2
      obtain ⟨h3, h4⟩ := chkI_elim h1
      refine ⟨h3, fun i o' s ho => ?_⟩
      cases i with
      | zero => simp at ho; subst ho; exact h2 s
      | succ i => simp at ho; rw [show i0 + (i + 1) = i0 + 1 + i by omega]; exact h4 i o' s ho
    split at h
    · rename_i he; exact tail h fun s hf => by rw [he] at hf; cases hf
    · split at h
      · obtain ⟨s0, hs0, h⟩ := nd_elim h
        rw [nth_eq] at hs0
        obtain ⟨h1, h2⟩ := chkJ_elim h
        refine tail h1 fun s _ _ hs j H hj hl hh => ?_
        rw [hs0] at hs
        injection hs with hs
        subst hs
        exact h2 j H hj (by rw [Nat.zero_add]; exact hl) (by rw [Nat.zero_add]; exact hh)
      · rename_i hf; exact tail h fun s _ hr => by rw [hr] at hf; cases hf
theorem chainOk_eq {ops : List Oper} : ∀ {l : List Oper} {i0 : Nat}, chainOk ops i0 l = true → ∀ (i : Nat) (o : Oper), l[i]? = some o → effO o = true → stg ops (i0 + i) ≠ 0 → ∃ e ∈ bnds o.after.toList, ∃ p, ops[e.on]? = some p ∧ effO p = true ∧ stg ops e.on + 1 = stg ops (i0 + i)
  | [], _, _, i, o, h => by simp at h
  | x :: r, i0, h, i, o, ho => by
    simp only [chainOk] at h
    have tail : chainOk ops (i0 + 1) r = true → (effO x = true → stg ops i0 ≠ 0 → ∃ e ∈ bnds x.after.toList, ∃ p, ops[e.on]? = some p ∧ effO p = true ∧ stg ops e.on + 1 = stg ops i0) → effO o = true → stg ops (i0 + i) ≠ 0 → ∃ e ∈ bnds o.after.toList, ∃ p, ops[e.on]? = some p ∧ effO p = true ∧ stg ops e.on + 1 = stg ops (i0 + i) := by
      intro h1 h2
      cases i with
      | zero => simp at ho; subst ho; exact h2
      | succ i => simp at ho; rw [show i0 + (i + 1) = i0 + 1 + i by omega]; exact chainOk_eq h1 i o ho
    split at h
    · rename_i hx
      split at h
      · rename_i hz
        exact tail h fun _ hne => absurd (Nat.eq_of_beq_eq_true hz) hne
      · split at h
        · rename_i hany
          refine tail h fun _ _ => ?_
          obtain ⟨e, he, h3⟩ := List.any_eq_true.1 hany
          split at h3
          · rename_i p hp
            rw [Bool.and_eq_true] at h3
            exact ⟨e, he, p, hp, h3.1, Nat.eq_of_beq_eq_true h3.2⟩
          · cases h3
        · cases h
    · rename_i hx; exact tail h fun hf => by rw [hf] at hx; cases hx
end
end Go.Sy

/- Sy, part P: the rule for a region that draws its order, proved. -/
namespace Go.Sy
open Go

theorem Rep.drew {β : Gh} {H : Hp} {w : World} (R : Rep β H w) : Rep β H { w with drawn := w.drawn + 1 } :=
  ⟨R.len, R.nb, R.box, R.row, R.nd, R.g⟩
theorem Ext.drew (β : Gh) (H : Hp) (w : World) : Ext β H w β H { w with drawn := w.drawn + 1 } :=
  ⟨Gle.refl _, ⟨rfl, rfl, rfl, Nat.le_refl _, fun _ _ _ => rfl⟩, fun _ h => .inl h, fun _ _ h => .inl h⟩
section
variable {P : Program} {T : List TI}
/-- What the text's order tells of each operation. -/
structure TextOk (T : List TI) (P : Program) (ops : List Oper) (Em : List (Nat × SV)) (Ds : List SV) (σ : List SV) (Hs : List Hp) : Prop where
  quiet : ∀ (i : Nat) (o : Oper) (s : SV) (H : Hp), ops[i]? = some o → effO o = false → σ[i]? = some s → Hs[stg ops i]? = some H → ∀ k' : SV → Prop, k' s → stepQ T P ops o ⟨depTs ops σ (bnds o.after.toList) Em, Ds⟩ H k'
  eff : ∀ (i : Nat) (o : Oper) (s : SV) (H : Hp), ops[i]? = some o → effO o = true → σ[i]? = some s → Hs[stg ops i]? = some H → ∃ H', Hs[stg ops i + 1]? = some H' ∧ ∀ k' : SV → Hp → Prop, k' s H' → opC T P o ⟨depTs ops σ (bnds o.after.toList) Em, Ds⟩ H k'
theorem vcText_upto {ops : List Oper} {Em : List (Nat × SV)} {Ds : List SV} (hok : edgesOk 0 ops = true) : ∀ (r : List Oper) (σ : List SV) (Hs : List Hp) (H : Hp) (K : List SV → List Hp → Hp → Prop), σ.length + r.length = ops.length → (∀ i, r[i]? = ops[σ.length + i]?) →
    Hs.length = stg ops σ.length + 1 → Hs[stg ops σ.length]? = some H → TextOk T P ops Em Ds σ Hs → vcText T P ops Em Ds r σ Hs H K →
    ∃ σ' Hs' H', σ'.length = ops.length ∧ Hs'.length = stg ops ops.length + 1 ∧ Hs'[stg ops ops.length]? = some H' ∧ Hs <+: Hs' ∧ K σ' Hs' H' ∧ TextOk T P ops Em Ds σ' Hs'
  | [], σ, Hs, H, K, hl, hr, h1, h2, ht, h => by
    have e : σ.length = ops.length := by simpa using hl
    rw [e] at h1 h2
    exact ⟨σ, Hs, H, e, h1, h2, List.prefix_refl _, h, ht⟩
  | o :: r, σ, Hs, H, K, hl, hr, h1, h2, ht, h => by
    rw [vcText_cons] at h
    have ho : ops[σ.length]? = some o := by have := hr 0; simpa using this.symm
    have hdep : ∀ (s : SV) (i : Nat) (p : Oper), ops[i]? = some p → i ≤ σ.length → depTs ops (σ ++ [s]) (bnds p.after.toList) Em = depTs ops σ (bnds p.after.toList) Em := by
      intro s i p hp hi
      refine depTs_congr fun e he => ?_
      have := (edgesOk_eq hok i p hp e he).2
      rw [nth_eq, nth_eq, List.getElem?_append_left (by omega)]
    have hr' : ∀ (s : SV) i, r[i]? = ops[(σ ++ [s]).length + i]? := fun s i => by
      have := hr (i + 1)
      simp at this ⊢
      rw [this]; congr 1; omega
    have hlen : ∀ i s, (σ ++ [s])[i]? ≠ none → i ≤ σ.length := fun i s h => by
      rcases Nat.lt_or_ge σ.length i with hlt | hge
      · exact absurd (List.getElem?_eq_none (by simp; omega)) h
      · exact hge
    split at h
    · rename_i he
      obtain ⟨s, H', h3, h4⟩ := detE_eff (T := T) (P := P) he _ _ _ h
      simp only [lf_eq] at h3
      have hst : stg ops (σ ++ [s]).length = stg ops σ.length + 1 := by rw [List.length_append, List.length_singleton, stg_succ ho, if_pos he]
      have htx : TextOk T P ops Em Ds (σ ++ [s]) (Hs ++ [H']) := by
        refine ⟨?_, ?_⟩
        · intro i p u H2 hp hq hu hH2 k' hk'
          have hi := hlen i s (by rw [hu]; simp)
          have hne : i ≠ σ.length := fun e => by subst e; rw [ho] at hp; injection hp with hp; subst hp; rw [he] at hq; cases hq
          have hlt : i < σ.length := by omega
          rw [hdep s i p hp hi]
          rw [List.getElem?_append_left hlt] at hu
          have hsm := stg_mono ops hi
          rw [List.getElem?_append_left (by omega)] at hH2
          exact ht.quiet i p u H2 hp hq hu hH2 k' hk'
        · intro i p u H2 hp hq hu hH2
          have hi := hlen i s (by rw [hu]; simp)
          rw [hdep s i p hp hi]
          rcases Nat.lt_or_ge i σ.length with hlt | hge
          · rw [List.getElem?_append_left hlt] at hu
            have hs1 := stg_mono ops (show i + 1 ≤ σ.length from hlt)
            rw [stg_succ hp, if_pos hq] at hs1
            rw [List.getElem?_append_left (by omega)] at hH2
            obtain ⟨H3, h5, h6⟩ := ht.eff i p u H2 hp hq hu hH2
            exact ⟨H3, by rw [List.getElem?_append_left (by omega)]; exact h5, h6⟩
          · have hi : i = σ.length := by omega
            subst hi
            rw [List.getElem?_append_right (Nat.le_refl _)] at hu
            simp at hu
            subst hu
            rw [ho] at hp
            injection hp with hp
            subst hp
            rw [List.getElem?_append_left (by omega), h2] at hH2
            injection hH2 with hH2
            subst hH2
            exact ⟨H', by rw [List.getElem?_append_right (by omega)]; simp [h1], h4⟩
      obtain ⟨σ', Hs', Hf, g1, g2, g3, g4, g5, g6⟩ := vcText_upto hok r (σ ++ [s]) (Hs ++ [H']) H' K (by simp at hl ⊢; omega) (hr' s) (by rw [hst]; simp [h1]) (by rw [hst, List.getElem?_append_right (by omega)]; simp [h1]) htx h3
      exact ⟨σ', Hs', Hf, g1, g2, g3, (List.prefix_append _ _).trans g4, g5, g6⟩
    · rename_i he
      obtain ⟨s, h3, h4⟩ := stepQ_det h
      rw [lf_eq] at h3
      have hst : stg ops (σ ++ [s]).length = stg ops σ.length := by rw [List.length_append, List.length_singleton, stg_succ ho, if_neg (by rw [he]; simp)]
      have htx : TextOk T P ops Em Ds (σ ++ [s]) Hs := by
        refine ⟨?_, ?_⟩
        · intro i p u H2 hp hq hu hH2 k' hk'
          have hi := hlen i s (by rw [hu]; simp)
          rw [hdep s i p hp hi]
          rcases Nat.lt_or_ge i σ.length with hlt | hge
          · rw [List.getElem?_append_left hlt] at hu
            exact ht.quiet i p u H2 hp hq hu hH2 k' hk'
          · have hi : i = σ.length := by omega
            subst hi
            rw [List.getElem?_append_right (Nat.le_refl _)] at hu
            simp at hu
            subst hu
            rw [ho] at hp
            injection hp with hp
            subst hp
            rw [h2] at hH2
            injection hH2 with hH2
            subst hH2
            exact h4 k' hk'
        · intro i p u H2 hp hq hu hH2
          have hi := hlen i s (by rw [hu]; simp)
          have hne : i ≠ σ.length := fun e => by subst e; rw [ho] at hp; injection hp with hp; subst hp; rw [he] at hq; cases hq
          have hlt : i < σ.length := by omega
          rw [hdep s i p hp hi]
          rw [List.getElem?_append_left hlt] at hu
          exact ht.eff i p u H2 hp hq hu hH2
      obtain ⟨σ', Hs', Hf, g1, g2, g3, g4, g5, g6⟩ := vcText_upto hok r (σ ++ [s]) Hs H K (by simp at hl ⊢; omega) (hr' s) (by rw [hst]; exact h1) (by rw [hst]; exact h2) htx h3
      exact ⟨σ', Hs', Hf, g1, g2, g3, g4, g5, g6⟩
/-- What does not look at the state tells the same in any. -/
theorem stepQ_agn {ops : List Oper} {o : Oper} {E : Env} {H H' : Hp} {k : SV → Prop} (hr : reads o = false) (h : stepQ T P ops o E H k) : stepQ T P ops o E H' k := by
  have op : opQ T P o E H k → opQ T P o E H' k := by
    intro h
    unfold opQ at h ⊢
    unfold reads at hr
    split at h
    · rename_i op c he
      split at hr
      · rename_i c' he'
        rw [he] at he'
        injection he' with he'
        subst he'
        split at hr
        · rename_i hc
          simp only [hc] at h ⊢
          exact h
        · rename_i hc
          simp only [hc] at h ⊢
          exact h
        · cases hr
      · rename_i hne; exact absurd he (hne c)
    · rename_i op hne
      split at hr
      · rename_i c he; exact absurd he (hne c)
      · have hag : agnOp o.op = true := by simpa using hr
        split at h
        · rename_i hq
          exact agn_opS hag E H H' h
        · exact h.elim
  unfold stepQ at h ⊢
  split at h
  · exact op h
  · rename_i j want hg
    replace h := nd_elim h
    obtain ⟨d, hd, h⟩ := h
    replace h := nd_elim h
    obtain ⟨g, hgt, h⟩ := h
    simp only [hd, hgt, nd]
    split at h
    · rename_i b
      split at h
      · rcases cnd_elim h with ⟨rfl, h⟩ | ⟨rfl, h⟩
        · exact op h
        · exact h
      · rcases cnd_elim h with ⟨rfl, h⟩ | ⟨rfl, h⟩
        · exact h
        · exact op h
    · exact h
    · exact h.elim
/-- Where a run of the region stands. -/
structure ParG (n b0 : Nat) (ops : List Oper) (Em : List (Nat × SV)) (Ds : List SV) (Hs : List Hp) (σ : List SV) (β0 : Gh) (H0 : Hp) (w0 : World) (listed : Array Bool) (a : Act) (w : World) : Prop where
  ex : ∃ β j H, Hs[j]? = some H ∧ Rep β H w ∧ Ext β0 H0 w0 β H w ∧ DefOk b0 β (owned β H) w Ds a.defers ∧ EnvOk β Em a.tmps ∧
    (∀ (i : Nat) (o : Oper), ops[i]? = some o → effO o = true → (listed[i]? = some true ↔ stg ops i < j)) ∧
    (∀ (i : Nat) (o : Oper) (s : SV) (d : Nat), ops[i]? = some o → listed[i]? = some true → o.dst = some d → σ[i]? = some s → ∃ x, a.tmps[d]? = some x ∧ Den β s x)
  size : a.tmps.size = n
  lsize : listed.size = ops.length
  dc : Down ops listed
theorem put_keep {tmps : Array Value} {d : Option Nat} {v x : Value} {t : Nat} (hx : tmps[t]? = some x) (hd : ∀ u, d = some u → u ≠ t) : ({ tmps := tmps, defers := [] : Act }.put d v).tmps[t]? = some x := by
  cases d with
  | none => simpa [Act.put] using hx
  | some u =>
    simp only [Act.put, Array.getElem?_setIfInBounds]
    rw [if_neg (hd u rfl)]; exact hx
theorem put_tmps (a : Act) (d : Option Nat) (v : Value) : (a.put d v).tmps = ({ tmps := a.tmps, defers := [] : Act }.put d v).tmps := by cases d <;> rfl
theorem put_defers (a : Act) (d : Option Nat) (v : Value) : (a.put d v).defers = a.defers := by cases d <;> rfl
theorem par_anyG (hT : TabOk T P) {ro : Option Nat} {n b0 : Nat} {ops : Array Oper} {Em : List (Nat × SV)} {Ds : List SV} {Hs : List Hp} {σ : List SV} {β0 : Gh} {H0 : Hp} {w0 : World} {Q : Exit → Act → World → Prop}
    (hd : (dsts ops.toList).Nodup) (hok : edgesOk 0 ops.toList = true) (hbl : ∀ d ∈ dsts ops.toList, d < n) (hch : chainOk ops.toList 0 ops.toList = true) (hEm : ∀ t s, get Em t = some s → t ∉ dsts ops.toList) (hσ : σ.length = ops.size)
    (hHs : Hs.length = stg ops.toList ops.size + 1) (ht : TextOk T P ops.toList Em Ds σ Hs)
    (hrd : ∀ (i : Nat) (o : Oper) (s : SV), ops.toList[i]? = some o → effO o = false → reads o = true → σ[i]? = some s →
      ∀ (j : Nat) (H : Hp), Hs[j]? = some H → loOk ops.toList j (bnds o.after.toList) = true → hiOk ops.toList i j 0 ops.toList = true → stepQ T P ops.toList o ⟨depTs ops.toList σ (bnds o.after.toList) Em, Ds⟩ H (fun s' => s' = s))
    (hQ : ∀ listed a w, ParG n b0 ops.toList Em Ds Hs σ β0 H0 w0 listed a w → (∀ i, i < ops.size → listed[i]? = some true) → Q .normal a w) :
    ∀ (m fuel : Nat) (listed : Array Bool) (a : Act) (w : World), listed.toList.count false = m → m ≤ fuel → ParG n b0 ops.toList Em Ds Hs σ β0 H0 w0 listed a w → wpAnyIn (W0 ro) 0 P .any ops Q fuel listed a w
  | m, 0, listed, a, w, hc, hf, I => by
    have hls : listed.size = ops.size := by simpa using I.lsize
    have hall : ∀ i, i < ops.size → listed[i]? = some true := by
      intro i hi
      have hlt : i < listed.size := by omega
      cases hb : listed[i]'hlt with
      | true => rw [Array.getElem?_eq_getElem hlt, hb]
      | false =>
        have : 0 < listed.toList.count false := List.count_pos_iff.2 (by rw [List.mem_iff_getElem?]; exact ⟨i, by simp [hlt, hb]⟩)
        omega
    refine ⟨?_, hQ listed a w I hall⟩
    unfold Region.ready
    rw [List.filter_eq_nil_iff]
    intro i hi
    have h1 := hall i (by simpa using hi)
    have hlt := (Array.getElem?_eq_some_iff.1 h1).1
    rw [Array.getElem?_eq_getElem hlt] at h1
    simp [Array.getD, hlt, Option.some.inj h1]
  | m, fuel + 1, listed, a, w, hc, hf, I => by
    have hls : listed.size = ops.size := by simpa using I.lsize
    refine ⟨fun hr => hQ listed a w I (ready_nil hok hls hr), fun i hi => ?_⟩
    rw [mem_ready] at hi
    obtain ⟨h0, o, ho, hdeps⟩ := hi
    have hilt := (Array.getElem?_eq_some_iff.1 ho).1
    have hil : i < listed.size := by omega
    have hol : ops.toList[i]? = some o := by simpa using ho
    have hdl : ∀ e ∈ bnds o.after.toList, listed[e.on]? = some true := by
      intro e he
      have h1 := edgesOk_eq hok i o hol e he
      have h2 := hdeps e (by simpa using bnds_mem he) h1.1
      have h3 : e.on < listed.size := by omega
      rw [Array.getElem?_eq_getElem h3]
      simp [Array.getD, h3] at h2
      rw [h2]
    have hbf : listed[i]'hil = false := by simpa [Array.getD, hil] using h0
    have hnl : listed[i]? ≠ some true := by rw [Array.getElem?_eq_getElem hil, hbf]; simp
    obtain ⟨β, j, H, hH, R, X, hD, hE, hef, hL⟩ := I.ex
    have hsi : σ[i]? = some (σ[i]'(by omega)) := List.getElem?_eq_getElem _
    have RA : RepA n b0 β ⟨depTs ops.toList σ (bnds o.after.toList) Em, Ds⟩ H a w := by
      refine ⟨R, I.size, hD, fun t s hts => ?_⟩
      rcases depTs_get hts with ⟨e, he, p, hp, hpd, hps⟩ | hts
      · exact hL e.on p s t hp (hdl e he) hpd hps
      · exact hE t s hts
    have RA0 : RepA n b0 β ⟨depTs ops.toList σ (bnds o.after.toList) Em, Ds⟩ H a w := RA
    have hjl : j < Hs.length := (List.getElem?_eq_some_iff.1 hH).1
    -- what is behind it
    have go : ∀ (β' : Gh) (y : Value) (H' : Hp) (w' : World) (j' : Nat), Den β' (σ[i]'(by omega)) y → Hs[j']? = some H' → Rep β' H' w' → Ext β H w β' H' w' → (∀ (k : Nat) (p : Oper), ops.toList[k]? = some p → effO p = true → ((listed.setIfInBounds i true)[k]? = some true ↔ stg ops.toList k < j')) →
        wpAnyIn (W0 ro) 0 P .any ops Q fuel (listed.setIfInBounds i true) (a.put o.dst y) w' := by
      intro β' y H' w' j' hdn hH' R' X' hef'
      have hcnt : (listed.setIfInBounds i true).toList.count false = m - 1 := by
        have e0 : (listed.setIfInBounds i true).toList = listed.toList.set i true := by simp
        have hil2 : i < listed.toList.length := by simpa using hil
        rw [e0, List.count_set hil2]
        have e1 : listed.toList[i]'hil2 = false := by simpa using hbf
        rw [e1]
        simp only [beq_self_eq_true, if_true]
        have e2 : ((true == false) = true) = False := by simp
        simp only [e2, if_false]
        omega
      have hpos : 0 < m := by
        rw [← hc]
        exact List.count_pos_iff.2 (by rw [List.mem_iff_getElem?]; exact ⟨i, by simp [hil, hbf]⟩)
      refine par_anyG hT hd hok hbl hch hEm hσ hHs ht hrd hQ (m - 1) fuel _ _ _ hcnt (by omega) ?_
      refine ⟨⟨β', j', H', hH', R', X.trans X', ?_, ?_, hef', ?_⟩, ?_, by simp [hls], I.dc.set hol hdl⟩
      · rw [put_defers]; exact hD.ext X'
      · intro t s hts
        obtain ⟨x, hx, hdx⟩ := hE t s hts
        refine ⟨x, ?_, Den.mono X'.pre _ _ hdx⟩
        rw [put_tmps]
        exact put_keep hx fun u hu e => hEm t s hts (e ▸ mem_dsts hol hu)
      · intro k p s d hp hk hpd hps
        by_cases hik : i = k
        · subst hik
          rw [hol] at hp
          injection hp with hp
          subst hp
          rw [hsi] at hps
          injection hps with hps
          subst hps
          have hdn' : d < a.tmps.size := by rw [I.size]; exact hbl d (mem_dsts hol hpd)
          exact ⟨y, by simp [Act.put, hpd, hdn'], hdn⟩
        · have hk' : listed[k]? = some true := by
            rw [Array.getElem?_setIfInBounds, if_neg hik] at hk; exact hk
          obtain ⟨x, hx, hdx⟩ := hL k p s d hp hk' hpd hps
          refine ⟨x, ?_, Den.mono X'.pre _ _ hdx⟩
          rw [put_tmps]
          exact put_keep hx fun u hu e => hik (dst_inj hd hol hp (e ▸ hu) hpd)
      · cases o.dst <;> simp [Act.put, I.size]
    cases he : effO o with
    | true =>
      -- its turn has come
      have hji : stg ops.toList i = j := by
        have h1 : ¬ stg ops.toList i < j := fun h => hnl ((hef i o hol he).2 h)
        by_cases hz : stg ops.toList i = 0
        · omega
        · obtain ⟨e, hee, p, hp, hpe, hpp⟩ := chainOk_eq hch i o hol he (by rw [Nat.zero_add]; exact hz)
          rw [Nat.zero_add] at hpp
          have := (hef e.on p hp hpe).1 (hdl e hee)
          omega
      obtain ⟨H', hH', hop⟩ := ht.eff i o _ H hol he hsi (by rw [hji]; exact hH)
      obtain ⟨hg, hnd⟩ := eff_nodefer he
      unfold wpOpIn
      simp only [ho]
      rw [if_pos (by simp [Region.wanted, hg])]
      have hop2 := hop (fun s' H'' => s' = σ[i]'(by omega) ∧ H'' = H') ⟨rfl, rfl⟩
      refine opC_wp hT (E := ⟨depTs ops.toList σ (bnds o.after.toList) Em, Ds⟩) RA hnd hop2 ?_
      rintro β' s y H'' w' hdn R' X' ⟨rfl, rfl⟩
      refine go β' y H'' w' (j + 1) hdn (by rw [← hji]; exact hH') R' X' fun k p hp hpe => ?_
      by_cases hik : i = k
      · subst hik
        rw [hji]
        simp [Array.getElem?_setIfInBounds, hil]
      · rw [Array.getElem?_setIfInBounds, if_neg hik, hef k p hp hpe]
        have hne : stg ops.toList k ≠ stg ops.toList i := fun e => hik (stg_inj hp hol hpe he e).symm
        omega
    | false =>
      have hq : stepQ T P ops.toList o ⟨depTs ops.toList σ (bnds o.after.toList) Em, Ds⟩ H (fun s' => s' = σ[i]'(by omega)) := by
        cases hre : reads o with
        | true =>
          refine hrd i o _ hol he hre hsi j H hH (loOk_of fun e hee p hp hpe => (hef e.on p hp hpe).1 (hdl e hee)) (hiOk_of 0 (fun m p h => by rw [Nat.zero_add]; exact h) fun k p hp hpe hek => ?_)
          obtain ⟨e, hee, heon⟩ := hek
          have h1 : ¬ stg ops.toList k < j := fun h => hnl (by rw [← heon]; exact I.dc k p hp ((hef k p hp hpe).2 h) e hee)
          omega
        | false =>
          have hsl : stg ops.toList i < Hs.length := by
            rw [hHs]
            have := stg_mono ops.toList (Nat.le_of_lt hilt)
            omega
          exact stepQ_agn hre (ht.quiet i o _ _ hol he hsi (List.getElem?_eq_getElem hsl) (fun s' => s' = σ[i]'(by omega)) rfl)
      refine stepQ_wp (k := fun s' => s' = σ[i]'(by omega)) hT RA ho hq ?_
      rintro β' s y w' hdn R' X' rfl
      refine go β' y H w' j hdn hH R' X' fun k p hp hpe => ?_
      have hik : i ≠ k := fun e => by subst e; rw [hol] at hp; injection hp with hp; subst hp; rw [he] at hpe; cases hpe
      rw [Array.getElem?_setIfInBounds, if_neg hik]
      exact hef k p hp hpe
end
end Go.Sy

/- Sy, part Q: the rule for a region that draws its order, used; loops over a function. -/
namespace Go.Sy
open Go
section
variable {P : Program} {T : List TI}
theorem parOk_eq {n : Nat} {ops : List Oper} (h : parOk n ops = true) : (dsts ops).Nodup ∧ edgesOk 0 ops = true ∧ ∀ d ∈ dsts ops, d < n := by
  unfold parOk at h
  split at h
  · cases h
  · rename_i hd
    split at h
    · rename_i he
      exact ⟨dups_eq hd, he, allBelow_eq h⟩
    · cases h
theorem Cd.par (hT : TabOk T P) (hm : P.follows .mixedOrders = true) {n id : Nat} {ro : Option Nat} {ops : Array Oper} {E : Env} {H : Hp} {K : Exit → Env → Hp → Prop} (hok : parOkG n ops.toList = true)
    (h : lf (eraseE (dsts ops.toList) E.ts) fun Em => vcText T P ops.toList Em E.ds ops.toList [] [H] H fun σ Hs H' => chkA T P ops.toList Em E.ds σ Hs (lf (fullE ops.toList σ Em) fun ts => K .normal ⟨ts, E.ds⟩ H')) :
    Cd P n ro (.region id ops true) E H K := by
  unfold parOkG at hok
  split at hok
  case h_2 => cases hok
  rename_i hpo
  obtain ⟨hnd, hed, hbl⟩ := parOk_eq hpo
  rw [lf_eq] at h
  obtain ⟨σ, Hs, H', g1, g2, g3, g4, g5, g6⟩ := vcText_upto hed ops.toList [] [H] H _ (by simp) (fun i => by simp) (by simp [stg]) (by simp [stg]) ⟨fun i o s H _ _ h => by simp at h, fun i o s H _ _ h => by simp at h⟩ h
  have g8' : (lf (fullE ops.toList σ (eraseE (dsts ops.toList) E.ts)) fun ts => K .normal ⟨ts, E.ds⟩ H') ∧ ∀ (i : Nat) (o : Oper) (s : SV), ops.toList[i]? = some o → effO o = false → reads o = true → σ[i]? = some s →
      ∀ (j : Nat) (H : Hp), Hs[j]? = some H → loOk ops.toList j (bnds o.after.toList) = true → hiOk ops.toList i j 0 ops.toList = true → stepQ T P ops.toList o ⟨depTs ops.toList σ (bnds o.after.toList) (eraseE (dsts ops.toList) E.ts), E.ds⟩ H (fun s' => s' = s) := by
    unfold chkA at g5
    split at g5
    · refine ⟨g5, fun i o s ho he hr hs j H1 hH1 _ _ => ?_⟩
      have hst : stg ops.toList i = j := by
        have hj := (List.getElem?_eq_some_iff.1 hH1).1
        have hi := stg_mono ops.toList (Nat.le_of_lt (List.getElem?_eq_some_iff.1 ho).1)
        simp only [List.length_singleton] at hj g2
        omega
      exact g6.quiet i o s H1 ho he hs (by rw [hst]; exact hH1) _ rfl
    · obtain ⟨g7, g8⟩ := chkI_elim g5
      exact ⟨g7, fun i o s ho he hr hs j H hH hl hh => g8 i o s ho he hr (by rw [Nat.zero_add]; exact hs) j H hH hl (by rw [Nat.zero_add]; exact hh)⟩
  obtain ⟨g7, g8⟩ := g8'
  rw [lf_eq] at g7
  have hH0 : Hs[0]? = some H := by
    obtain ⟨t, rfl⟩ := g4
    rfl
  refine ⟨fun b0 β a w R => wpIn_region_any hm ?_⟩
  refine par_anyG (Em := eraseE (dsts ops.toList) E.ts) (Ds := E.ds) (Hs := Hs) (σ := σ) (β0 := β) (H0 := H) (w0 := { w with drawn := w.drawn + 1 }) (n := n) (b0 := b0) hT hnd hed hbl hok (fun t s hts => (eraseE_get hts).2) (by simpa using g1) (by simpa using g2) g6 g8 ?_ ops.size ops.size _ a _ (by simp) (Nat.le_refl _) ?_
  · rintro listed a' w' I hall
    obtain ⟨β', j, H2, hH2, R', X', hD, hE, hef, hL⟩ := I.ex
    have hlt := (List.getElem?_eq_some_iff.1 hH2).1
    have hj : j = stg ops.toList ops.toList.length := by
      rcases Nat.lt_or_ge j (stg ops.toList ops.toList.length) with hl | hg
      · exfalso
        have : ∀ k, k ≤ ops.toList.length → stg ops.toList k ≤ j := by
          intro k
          induction k with
          | zero => intro _; simp [stg]
          | succ k ih =>
            intro hk
            have h1 := ih (by omega)
            have ho : ops.toList[k]? = some (ops.toList[k]'(by omega)) := List.getElem?_eq_getElem _
            rw [stg_succ ho]
            split
            · rename_i he
              have := (hef k _ ho he).1 (hall k (by have h3 : k < ops.toList.length := hk; simpa using h3))
              omega
            · exact h1
        have := this _ (Nat.le_refl _)
        omega
      · rw [g2] at hlt
        omega
    subst hj
    rw [g3] at hH2
    injection hH2 with hH2
    subst hH2
    refine ⟨β', ⟨fullE ops.toList σ (eraseE (dsts ops.toList) E.ts), E.ds⟩, H', ⟨R', I.size, hD, fun t s hts => ?_⟩, (Ext.drew β H w).trans X', g7⟩
    rcases fullE_get hts with ⟨k, o, hk, hd, hs⟩ | hts
    · exact hL k o s t hk (hall k (by have := (List.getElem?_eq_some_iff.1 hk).1; simpa using this)) hd hs
    · exact hE t s hts
  · have hrep : ∀ i : Nat, (Array.replicate ops.size false)[i]? ≠ some true := by
      intro i hi
      rw [Array.getElem?_replicate] at hi
      split at hi <;> cases hi
    refine ⟨⟨β, 0, H, hH0, R.rep.drew, Ext.refl _ _ _, R.defs.ext (Ext.drew β H w), fun t s hts => R.env t s (eraseE_get hts).1, fun i o _ _ => ⟨fun h => absurd h (hrep i), fun h => by cases h⟩, fun i o s d _ h => absurd h (hrep i)⟩, R.size, by simp, fun j o _ h => absurd h (hrep j)⟩
end
end Go.Sy

