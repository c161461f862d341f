import Derived.Test.YtmjpidjdbofdjaaYM
/- Sy, part N: regions that draw their order. -/
set_option linter.unusedVariables false
set_option linter.unusedSimpArgs false
namespace Go.Sy
open Go

/-- Operations that only tell a value. -/
def quietOp : Op → Bool
  | .move _ | .assign _ | .pick .. | .nilCheck _ | .binOp .. | .unOp .. | .convert .. | .makeFunc .. | .makeInterface .. | .extract .. | .fieldAddr .. | .field .. | .index .. | .indexAddr .. | .slice .. | .load .. | .build .. | .buildSlice .. | .lookup .. => true
  | _ => false
/-- .. and do not look at the state. -/
def agnOp : Op → Bool
  | .move _ | .assign _ | .pick .. | .nilCheck _ | .binOp .. | .unOp .. | .makeFunc .. | .makeInterface .. | .extract .. | .fieldAddr .. | .field .. | .index .. | .indexAddr .. | .slice .. | .build .. | .buildSlice .. => true
  | _ => false
/-- It comes to one value, whatever is asked of it. -/
def Det (F : (SV → Hp → Prop) → Prop) (H : Hp) : Prop := ∀ k, F k → ∃ s, k s H ∧ ∀ k', k' s H → F k'
theorem det_nd {α : Type} {o : Option α} {F : α → (SV → Hp → Prop) → Prop} {H : Hp} (h : ∀ a, Det (F a) H) : Det (fun k => nd o fun a => F a k) H := by
  intro k hk
  obtain ⟨a, rfl, hk⟩ := nd_elim hk
  obtain ⟨s, h1, h2⟩ := h a k hk
  exact ⟨s, h1, fun k' hk' => h2 k' hk'⟩
theorem det_ret {s : SV} {H : Hp} : Det (fun k => k s H) H := fun _ hk => ⟨s, hk, fun _ h => h⟩
theorem det_false {H : Hp} : Det (fun _ => False) H := fun _ hk => hk.elim
theorem det_inb {z : Int} {n : Nat} {F : Nat → (SV → Hp → Prop) → Prop} {H : Hp} (h : ∀ a, Det (F a) H) : Det (fun k => inb z n fun a => F a k) H := by
  intro k hk
  obtain ⟨h0, h1, hk⟩ := inb_elim hk
  obtain ⟨s, h2, h3⟩ := h _ k hk
  exact ⟨s, h2, fun k' hk' => inb_mk h0 h1 (h3 k' hk')⟩
theorem det_nng {z : Int} {F : Nat → (SV → Hp → Prop) → Prop} {H : Hp} (h : ∀ a, Det (F a) H) : Det (fun k => nng z fun a => F a k) H := by
  intro k hk
  obtain ⟨h0, hk⟩ := nng_elim hk
  obtain ⟨s, h2, h3⟩ := h _ k hk
  exact ⟨s, h2, fun k' hk' => nng_mk h0 (h3 k' hk')⟩
theorem det_nz {z : Int} {F : (SV → Hp → Prop) → Prop} {H : Hp} (h : Det F H) : Det (fun k => nz z (F k)) H := by
  intro k hk
  obtain ⟨h0, hk⟩ := nz_elim hk
  obtain ⟨s, h2, h3⟩ := h k hk
  exact ⟨s, h2, fun k' hk' => nz_mk h0 (h3 k' hk')⟩
theorem det_cnd {b : Bool} {F G : (SV → Hp → Prop) → Prop} {H : Hp} (h1 : Det F H) (h2 : Det G H) : Det (fun k => cnd b (F k) (G k)) H := by
  intro k hk
  cases b
  · exact h2 k hk
  · exact h1 k hk
theorem det_lf {α : Type} {l : List α} {F : List α → (SV → Hp → Prop) → Prop} {H : Hp} (h : ∀ l, Det (F l) H) : Det (fun k => lf l fun a => F a k) H := by
  intro k hk
  simp only [lf_eq] at hk ⊢
  exact h l k hk
theorem det_and {p : Prop} {F : (SV → Hp → Prop) → Prop} {H : Hp} (h : Det F H) : Det (fun k => p ∧ F k) H := by
  intro k ⟨hp, hk⟩
  obtain ⟨s, h2, h3⟩ := h k hk
  exact ⟨s, h2, fun k' hk' => ⟨hp, h3 k' hk'⟩⟩
theorem det_ex {α : Type} {F : α → (SV → Hp → Prop) → Prop} {H : Hp} (h : ∀ a, Det (F a) H) : Det (fun k => ∃ a, F a k) H := by
  intro k ⟨a, hk⟩
  obtain ⟨s, h2, h3⟩ := h a k hk
  exact ⟨s, h2, fun k' hk' => ⟨a, h3 k' hk'⟩⟩
theorem det_fill {d : TD} {H : Hp} : ∀ (ps : List (Nat × SV)) (cs : List SV), Det (fun k => fillS d cs ps fun cs => k (.agg cs) H) H
  | [], cs => by simp only [fillS]; exact det_ret
  | (i, s) :: r, cs => by
    simp only [fillS]
    refine det_nd fun p => ?_
    split
    · exact det_nd fun cs => det_lf fun cs => det_fill r cs
    · exact det_false
theorem det_bnd {x : Option SV} {d hi : Nat} {F : Nat → (SV → Hp → Prop) → Prop} {H : Hp} (h : ∀ a, Det (F a) H) : Det (fun k => bnd x d hi fun a => F a k) H := by
  unfold bnd
  split
  · exact h _
  · exact det_inb h
  · exact det_false
theorem det_binI {op : BinOp} {k0 : IntKind} {a b : Int} {H : Hp} : Det (fun k => binI op k0 a b fun s => k s H) H := by
  cases op <;> simp only [binI] <;> first | exact det_ret | exact det_nz det_ret | exact det_false
theorem det_binS {op : BinOp} {x y : SV} {H : Hp} : Det (fun k => binS op x y fun s => k s H) H := by
  unfold binS
  split
  · split
    · exact det_nng fun _ => det_ret
    · exact det_nng fun _ => det_ret
    · split
      · exact det_binI
      · exact det_false
  · split <;> first | exact det_ret | exact det_and det_ret | exact det_false
  · exact det_false
theorem det_fillE {H : Hp} {es sz : Nat} : ∀ (ps : List (Nat × SV)) (l : List SV), Det (fun k => fillE es l ps fun l => match onesE l with | true => k (.lst true sz l) H | false => False) H
  | [], l => by
    simp only [fillE]
    split
    · exact det_ret
    · exact det_false
  | (i, s) :: r, l => by
    simp only [fillE]
    split
    · exact det_lf fun l => det_fillE r l
    · exact det_false
theorem det_ldC {i : TI} {cs : List SV} {o : Nat} {H : Hp} : Det (fun k => ldC i cs o fun s => k s H) H := by
  unfold ldC
  split
  · exact det_nd fun l => det_lf fun l => det_ret
  · exact det_nd fun l => det_ret
theorem det_lkS {kd : IntKind} {z : Int} {H : Hp} {F : Option SV → (SV → Hp → Prop) → Prop} (h : ∀ r, Det (F r) H) : ∀ kvs : List (Value × SV), Det (fun k => lkS kd z kvs fun r => F r k) H
  | [] => by simp only [lkS]; exact h _
  | (k0, s) :: r => by
    cases k0 <;> simp only [lkS] <;> try exact det_false
    split
    · exact det_cnd (h _) (det_lkS h r)
    · exact det_false
theorem det_opS {T : List TI} {P : Program} {op : Op} (hq : quietOp op = true) (E : Env) (H : Hp) : Det (opS T P op E H) H := by
  unfold opS
  split <;> first | (simp only [quietOp] at hq; cases hq; done) | skip
  · exact det_nd fun _ => det_ret
  · exact det_nd fun _ => det_ret
  · refine det_nd fun s => ?_
    split
    · exact det_cnd (det_nd fun _ => det_ret) (det_nd fun _ => det_ret)
    · exact det_false
  · refine det_nd fun i => ?_
    split
    · exact det_nd fun z => det_nd fun ps => det_fill _ _
    · exact det_nd fun z => det_nd fun ps => det_fill _ _
    · exact det_false
  · refine det_nd fun i => ?_
    split
    · refine det_nd fun _ => det_nd fun z => det_nd fun z0 => det_nd fun ps => ?_
      split
      · exact det_fillE _ _
      · exact det_false
    · exact det_false
  · refine det_nd fun i => det_nd fun s => ?_
    unfold ldS
    split
    · refine det_nd fun x => ?_
      split
      · exact det_ldC
      · exact det_false
    · exact det_ldC
    · exact det_nd fun r => det_and (det_ex fun m => det_ex fun f => det_and (det_nd fun e => det_ldC))
    · exact det_false
  · refine det_nd fun s => ?_
    split <;> first | exact det_ret | exact det_false
  · refine det_nd fun s => det_nd fun u => ?_
    split
    · rintro k ⟨b, h1, h4⟩
      exact ⟨_, h4, fun k' hk' => ⟨b, h1, hk'⟩⟩
    · refine det_nd fun i => ?_
      split <;> first | exact det_ret | exact det_false
    · refine det_nd fun i => ?_
      split <;> first | exact det_ret | exact det_false
    · exact det_binS
  · refine det_nd fun s => ?_
    unfold unS
    split <;> first | exact det_ret | exact det_false
  · refine det_nd fun _ => det_nd fun i => det_nd fun s => ?_
    split
    · exact det_ret
    · exact det_ret
    · split
      · refine det_nd fun _ => ?_
        split
        · exact det_ex fun _ => det_and det_ret
        · exact det_false
      · exact det_false
    · split
      · refine det_nd fun _ => ?_
        split
        · exact det_nd fun _ => det_and (det_and (det_ex fun _ => det_and det_ret))
        · exact det_false
      · exact det_false
    · split
      · refine det_nd fun _ => ?_
        split
        · exact det_and det_ret
        · exact det_false
      · exact det_false
    · exact det_false
  · exact det_nd fun _ => det_nd fun _ => det_ret
  · refine det_nd fun i => det_nd fun s => ?_
    split <;> first | exact det_ret | exact det_false
  · refine det_nd fun s => ?_
    split
    · exact det_nd fun _ => det_ret
    · exact det_false
  · refine det_nd fun i => ?_
    split
    · refine det_nd fun p => ?_
      split
      · exact det_false
      · refine det_nd fun s => ?_
        split <;> first | exact det_ret | exact det_false
    · exact det_false
  · refine det_nd fun i => ?_
    split
    · refine det_nd fun p => det_nd fun s => ?_
      split
      · split
        · exact det_nd fun _ => det_lf fun _ => det_ret
        · exact det_nd fun _ => det_ret
      · exact det_false
    · exact det_false
  · refine det_nd fun i => det_nd fun s => det_nd fun y => ?_
    split
    · refine det_inb fun m => ?_
      split
      · exact det_nd fun _ => det_lf fun _ => det_ret
      · exact det_nd fun _ => det_ret
    · exact det_inb fun _ => det_ret
    · exact det_false
  · refine det_nd fun i => det_nd fun s => det_nd fun y => ?_
    split
    · exact det_inb fun _ => det_ret
    · exact det_inb fun _ => det_and (det_nd fun _ => det_lf fun _ => det_ret)
    · exact det_inb fun _ => det_nd fun _ => det_ret
    · exact det_false
  · refine det_nd fun i => det_nd fun s => det_nd fun lo => det_nd fun hi => det_nd fun mx => ?_
    split
    · split
      · exact det_bnd fun _ => det_bnd fun _ => det_ret
      · exact det_false
    · split
      · exact det_bnd fun _ => det_bnd fun _ => det_ret
      · refine det_bnd fun _ => det_bnd fun _ => det_bnd fun _ => ?_
        split <;> first | exact det_ret | exact det_false
    · refine det_and ?_
      split
      · exact det_bnd fun _ => det_bnd fun _ => det_ret
      · refine det_bnd fun _ => det_bnd fun _ => det_bnd fun _ => ?_
        split <;> first | exact det_ret | exact det_false
    · exact det_false
  · rename_i op t m x ok
    refine det_nd fun i => det_nd fun p => det_nd fun ik => det_nd fun ie => det_nd fun s => det_nd fun sk => ?_
    split
    · split
      · refine det_nd fun bx => ?_
        split
        · refine det_lkS (fun r => ?_) _
          cases r with
          | some s => cases ok <;> exact det_ret
          | none => exact det_nd fun z => det_nd fun s => by cases ok <;> exact det_ret
        · exact det_false
      · exact det_false
    · exact det_false
theorem agn_opS {T : List TI} {P : Program} {op : Op} (hq : agnOp op = true) (E : Env) (H H' : Hp) {k : SV → Prop} (h : opS T P op E H fun s _ => k s) : opS T P op E H' fun s _ => k s := by
  cases op <;> first | (simp only [agnOp] at hq; cases hq; done) | exact h
def quietB : Builtin → Bool
  | .len | .min | .max | .cap => true
  | _ => false
/-- A call that only tells a value. -/
structure CallQ (P : Program) (f : FuncId) (l : List SV) (H : Hp) (k : SV → Prop) : Prop where
  ex : ∃ r0, Tr P f l H (fun r H' => r = r0 ∧ H' = H) ∧ k r0
theorem CallQ.of {P : Program} {f : FuncId} {l l' : List SV} {H : Hp} {k : SV → Prop} {r0 : SV} (h : Fc P f l' r0) (hl : lePL l l') (hk : k r0) : CallQ P f l H k := ⟨r0, Fc.use h hl ⟨rfl, rfl⟩, hk⟩
theorem CallQ.tr {P : Program} {f : FuncId} {l : List SV} {H : Hp} {k : SV → Prop} {r0 : SV} (h : Tr P f l H (fun r H' => r = r0 ∧ H' = H)) (hk : k r0) : CallQ P f l H k := ⟨r0, h, hk⟩
def opQ (T : List TI) (P : Program) (o : Oper) (E : Env) (H : Hp) (k : SV → Prop) : Prop :=
  match o.op with
  | .call c => match c.callee with
    | .value f => nd (ev E f) fun s => nd (evs E c.args.toList) fun as => match s with
      | .clo (.func g) a cs => lf (a ++ as ++ cs) fun l => CallQ P g l H k
      | _ => False
    | .builtin b => match quietB b with
      | true => nd (evs E c.args.toList) fun as => bltS T P b c.argTypes.toList as H fun s _ => k s
      | false => False
    | .invoke r m => nd (ev E r) fun s => nd (evs E c.args.toList) fun as => match s with
      | .ifc t x => ∃ g, methOf P t m = some g ∧ lf (x :: as) fun l => CallQ P g l H k
      | _ => False
  | op => match quietOp op with
    | true => opS T P op E H fun s _ => k s
    | false => False
def stepQ (T : List TI) (P : Program) (ops : List Oper) (o : Oper) (E : Env) (H : Hp) (k : SV → Prop) : Prop :=
  match o.guard with
  | none => opQ T P o E H k
  | some (j, want) => nd (dstOf ops j) fun d => nd (get E.ts d) fun g => match g with
    | .v (.bool b) => match want with
      | true => cnd b (opQ T P o E H k) (k (.v undef))
      | false => cnd b (k (.v undef)) (opQ T P o E H k)
    | .v (.tuple _) => k (.v undef)
    | _ => False
/-- The edges that bind in every order. -/
def bnds : List Edge → List Edge
  | [] => []
  | e :: r => match e.ground with
    | .textOnly _ => bnds r
    | .gcOnly _ => bnds r
    | _ => e :: bnds r
theorem bnds_mem : ∀ {l : List Edge} {e : Edge}, e ∈ bnds l → e ∈ l
  | [], _, h => by simp [bnds] at h
  | x :: r, e, h => by
    simp only [bnds] at h
    split at h
    · exact List.mem_cons_of_mem _ (bnds_mem h)
    · exact List.mem_cons_of_mem _ (bnds_mem h)
    · rcases List.mem_cons.1 h with rfl | h
      · exact List.mem_cons_self ..
      · exact List.mem_cons_of_mem _ (bnds_mem h)
theorem bnds_of : ∀ {l : List Edge} {e : Edge}, e ∈ l → Region.binds .any e = true → e ∈ bnds l
  | [], _, h, _ => by simp at h
  | x :: r, e, h, hb => by
    simp only [bnds]
    rcases List.mem_cons.1 h with rfl | h
    · unfold Region.binds at hb
      split
      · rename_i r' hr; rw [hr] at hb; cases hb
      · rename_i r' hr; rw [hr] at hb; cases hb
      · exact List.mem_cons_self ..
    · split
      · exact bnds_of h hb
      · exact bnds_of h hb
      · exact List.mem_cons_of_mem _ (bnds_of h hb)
def depTs (ops : List Oper) (σ : List SV) : List Edge → List (Nat × SV) → List (Nat × SV)
  | [], E => E
  | e :: r, E => match dstOf ops e.on with
    | some d => match nth σ e.on with
      | some s => (d, s) :: depTs ops σ r E
      | none => depTs ops σ r E
    | none => depTs ops σ r E
def dsts : List Oper → List Nat
  | [] => []
  | o :: r => match o.dst with
    | some d => d :: dsts r
    | none => dsts r
def isIn : Nat → List Nat → Bool
  | _, [] => false
  | d, x :: r => match Nat.beq d x with | true => true | false => isIn d r
def dups : List Nat → Bool
  | [] => false
  | x :: r => match isIn x r with | true => true | false => dups r
def edgeOk (i : Nat) : List Edge → Bool
  | [] => true
  | e :: r => match e.ground with
    | .textOnly _ => false
    | .gcOnly _ => false
    | _ => match Nat.blt e.on i with | true => edgeOk i r | false => false
def edgesOk : Nat → List Oper → Bool
  | _, [] => true
  | i, o :: r => match edgeOk i (bnds o.after.toList) with | true => edgesOk (i + 1) r | false => false
def allBelow (n : Nat) : List Nat → Bool
  | [] => true
  | x :: r => match Nat.blt x n with | true => allBelow n r | false => false
def parOk (n : Nat) (ops : List Oper) : Bool :=
  match dups (dsts ops) with
  | true => false
  | false => match edgesOk 0 ops with
    | true => allBelow n (dsts ops)
    | false => false
def eraseE (ds : List Nat) : List (Nat × SV) → List (Nat × SV)
  | [] => []
  | (t, s) :: r => match isIn t ds with | true => eraseE ds r | false => (t, s) :: eraseE ds r
def fullE : List Oper → List SV → List (Nat × SV) → List (Nat × SV)
  | o :: r, s :: σ, E => match o.dst with
    | some d => (d, s) :: fullE r σ E
    | none => fullE r σ E
  | _, _, E => E
theorem isIn_eq {d : Nat} : ∀ {l : List Nat}, isIn d l = true ↔ d ∈ l
  | [] => by simp [isIn]
  | x :: r => by
    simp only [isIn, List.mem_cons]
    split
    · rename_i h; simp [Nat.eq_of_beq_eq_true h]
    · rename_i h; rw [isIn_eq]; have := Nat.ne_of_beq_eq_false h; simp [this]
theorem dups_eq : ∀ {l : List Nat}, dups l = false → l.Nodup
  | [], _ => List.nodup_nil
  | x :: r, h => by
    simp only [dups] at h
    split at h
    · cases h
    · rename_i hx
      exact List.nodup_cons.2 ⟨(fun hm => by rw [isIn_eq.2 hm] at hx; cases hx), dups_eq h⟩
theorem edgeOk_eq {i : Nat} : ∀ {l : List Edge}, edgeOk i l = true → ∀ e ∈ l, Region.binds .any e = true ∧ e.on < i
  | [], _, e, he => by simp at he
  | x :: r, h, e, he => by
    simp only [edgeOk] at h
    split at h
    · cases h
    · cases h
    · rename_i h1 h2
      split at h
      · rename_i hb
        rcases List.mem_cons.1 he with rfl | he
        · refine ⟨?_, by rw [Nat.blt_eq] at hb; exact hb⟩
          unfold Region.binds
          split
          · rename_i r' hr; exact absurd hr (h1 r')
          · rename_i r' hr; exact absurd hr (h2 r')
          · rfl
        · exact edgeOk_eq h e he
      · cases h
theorem edgesOk_eq : ∀ {l : List Oper} {i0 : Nat}, edgesOk i0 l = true → ∀ (i : Nat) (o : Oper), l[i]? = some o → ∀ e ∈ (bnds o.after.toList), Region.binds .any e = true ∧ e.on < i0 + i
  | [], _, _, i, o, h => by simp at h
  | x :: r, i0, h, i, o, ho => by
    simp only [edgesOk] at h
    split at h
    · rename_i hx
      cases i with
      | zero => simp at ho; subst ho; exact fun e he => edgeOk_eq hx e he
      | succ i =>
        simp at ho
        intro e he
        have := edgesOk_eq h i o ho e he
        exact ⟨this.1, by omega⟩
    · cases h
theorem allBelow_eq {n : Nat} : ∀ {l : List Nat}, allBelow n l = true → ∀ d ∈ l, d < n
  | [], _, d, h => by simp at h
  | x :: r, h, d, hd => by
    simp only [allBelow] at h
    split at h
    · rename_i hx
      rcases List.mem_cons.1 hd with rfl | hd
      · rw [Nat.blt_eq] at hx; exact hx
      · exact allBelow_eq h d hd
    · cases h
theorem mem_dsts : ∀ {l : List Oper} {i : Nat} {o : Oper} {d : Nat}, l[i]? = some o → o.dst = some d → d ∈ dsts l
  | [], _, _, _, h, _ => by simp at h
  | x :: r, i, o, d, h, hd => by
    cases i with
    | zero => simp at h; subst h; simp [dsts, hd]
    | succ i =>
      simp at h
      have := mem_dsts h hd
      simp only [dsts]
      split
      · exact List.mem_cons_of_mem _ this
      · exact this
theorem dst_inj : ∀ {l : List Oper}, (dsts l).Nodup → ∀ {i j : Nat} {o p : Oper} {d : Nat}, l[i]? = some o → l[j]? = some p → o.dst = some d → p.dst = some d → i = j
  | [], _, i, j, o, p, d, h, _, _, _ => by simp at h
  | x :: r, hn, i, j, o, p, d, hi, hj, ho, hp => by
    cases i with
    | zero =>
      cases j with
      | zero => rfl
      | succ j =>
        simp at hi hj
        subst hi
        simp only [dsts, ho] at hn
        exact absurd (mem_dsts hj hp) (List.nodup_cons.1 hn).1
    | succ i =>
      cases j with
      | zero =>
        simp at hi hj
        subst hj
        simp only [dsts, hp] at hn
        exact absurd (mem_dsts hi ho) (List.nodup_cons.1 hn).1
      | succ j =>
        simp at hi hj
        have hn' : (dsts r).Nodup := by
          simp only [dsts] at hn
          split at hn
          · exact (List.nodup_cons.1 hn).2
          · exact hn
        rw [dst_inj hn' hi hj ho hp]
theorem eraseE_get {ds : List Nat} : ∀ {E : List (Nat × SV)} {t : Nat} {s : SV}, get (eraseE ds E) t = some s → get E t = some s ∧ t ∉ ds
  | [], _, _, h => by simp [eraseE, get] at h
  | (u, s') :: r, t, s, h => by
    simp only [eraseE] at h
    split at h
    · rename_i hu
      obtain ⟨h1, h2⟩ := eraseE_get h
      refine ⟨?_, h2⟩
      simp only [get]
      have : Nat.beq u t = false := by
        cases hb : Nat.beq u t with
        | false => rfl
        | true => exact absurd (Nat.eq_of_beq_eq_true hb ▸ isIn_eq.1 hu) h2
      rw [this]; exact h1
    · rename_i hu
      simp only [get] at h ⊢
      split at h
      · rename_i hb
        have hb' := Nat.eq_of_beq_eq_true hb
        subst hb'
        exact ⟨h, fun hm => by rw [isIn_eq.2 hm] at hu; cases hu⟩
      · rename_i hb
        exact eraseE_get h

theorem fullE_get : ∀ {ops : List Oper} {σ : List SV} {E : List (Nat × SV)} {t : Nat} {s : SV}, get (fullE ops σ E) t = some s → (∃ (j : Nat) (o : Oper), ops[j]? = some o ∧ o.dst = some t ∧ σ[j]? = some s) ∨ get E t = some s
  | [], σ, E, t, s, h => .inr (by simpa [fullE] using h)
  | o :: r, [], E, t, s, h => .inr (by simpa [fullE] using h)
  | o :: r, u :: σ, E, t, s, h => by
    simp only [fullE] at h
    have rec_ : get (fullE r σ E) t = some s → (∃ (j : Nat) (p : Oper), (o :: r)[j]? = some p ∧ p.dst = some t ∧ (u :: σ)[j]? = some s) ∨ get E t = some s := by
      intro h
      rcases fullE_get h with ⟨j, p, h1, h2, h3⟩ | h
      · exact .inl ⟨j + 1, p, by simpa using h1, h2, by simpa using h3⟩
      · exact .inr h
    split at h
    · rename_i d hd
      simp only [get] at h
      split at h
      · rename_i hb
        injection h with h; subst h
        exact .inl ⟨0, o, rfl, by rw [hd, Nat.eq_of_beq_eq_true hb], rfl⟩
      · exact rec_ h
    · exact rec_ h
theorem depTs_get {ops : List Oper} {σ : List SV} : ∀ {l : List Edge} {E : List (Nat × SV)} {t : Nat} {s : SV}, get (depTs ops σ l E) t = some s →
    (∃ e ∈ l, ∃ o, ops[e.on]? = some o ∧ o.dst = some t ∧ σ[e.on]? = some s) ∨ get E t = some s
  | [], E, t, s, h => .inr (by simpa [depTs] using h)
  | e :: r, E, t, s, h => by
    simp only [depTs] at h
    have rec_ : get (depTs ops σ r E) t = some s → (∃ e' ∈ e :: r, ∃ o, ops[e'.on]? = some o ∧ o.dst = some t ∧ σ[e'.on]? = some s) ∨ get E t = some s := by
      intro h
      rcases depTs_get h with ⟨e', he, h⟩ | h
      · exact .inl ⟨e', by simp [he], h⟩
      · exact .inr h
    split at h
    · rename_i d hd
      rw [dstOf_eq] at hd
      obtain ⟨o, ho, hod⟩ := Option.bind_eq_some_iff.1 hd
      split at h
      · rename_i u hu
        rw [nth_eq] at hu
        simp only [get] at h
        split at h
        · rename_i hb
          injection h with h; subst h
          exact .inl ⟨e, by simp, o, ho, by rw [hod, Nat.eq_of_beq_eq_true hb], hu⟩
        · exact rec_ h
      · exact rec_ h
    · exact rec_ h


section
variable {P : Program} {T : List TI}
theorem det_foldI {H : Hp} (b : Builtin) (kd : IntKind) : ∀ (l : List SV) (x : Int), Det (fun k => foldI b kd x l fun z => k (.v (.int kd z)) H) H
  | [], x => by simp only [foldI]; exact det_ret
  | s :: r, x => by
    simp only [foldI]
    split
    · split
      · exact det_foldI b kd r _
      · exact det_false
    · exact det_false
theorem det_bltS {b : Builtin} (hb : quietB b = true) (ts : List TypeId) (as : List SV) (H : Hp) : Det (bltS T P b ts as H) H := by
  unfold bltS
  split <;> first | (simp only [quietB] at hb; cases hb; done) | skip
  · refine det_nd fun t => det_nd fun i => ?_
    split <;> first | exact det_ret | exact det_false
  · split
    · exact det_foldI _ _ _ _
    · exact det_false
  · split
    · exact det_foldI _ _ _ _
    · exact det_false
  · refine det_nd fun t => det_nd fun i => ?_
    split <;> first | exact det_ret | exact det_false
theorem opQ_det {o : Oper} {E : Env} {H : Hp} {k : SV → Prop} (h : opQ T P o E H k) :
    ∃ s, k s ∧ (∀ k' : SV → Prop, k' s → opQ T P o E H k') ∧ opC T P o E H (fun s' H' => s' = s ∧ H' = H) := by
  unfold opQ at h
  split at h
  · rename_i op c he
    split at h
    · rename_i cal f hc
      replace h := nd_elim h
      obtain ⟨s, hs, h⟩ := h
      replace h := nd_elim h
      obtain ⟨as, has, h⟩ := h
      split at h
      · rename_i g l1 l2
        rw [lf_eq] at h
        obtain ⟨r0, h2, h3⟩ := h
        refine ⟨r0, h3, fun k' hk' => ?_, ?_⟩
        · unfold opQ
          simp only [he, hc, hs, has, nd, lf_eq]
          exact ⟨r0, h2, hk'⟩
        · unfold opC callS
          simp only [he, hc, hs, has, nd, lf_eq]
          exact h2
      · exact h.elim
    · rename_i b hc
      split at h
      · rename_i hb
        replace h := nd_elim h
        obtain ⟨as, has, h⟩ := h
        obtain ⟨s, h1, h2⟩ := det_bltS hb _ _ _ _ h
        refine ⟨s, h1, fun k' hk' => ?_, ?_⟩
        · unfold opQ
          simp only [he, hc, hb, has, nd]
          exact h2 (fun s _ => k' s) hk'
        · unfold opC callS
          simp only [he, hc, has, nd]
          exact h2 _ ⟨rfl, rfl⟩
      · exact h.elim
    · rename_i rc m hc
      replace h := nd_elim h
      obtain ⟨s, hs, h⟩ := h
      replace h := nd_elim h
      obtain ⟨as, has, h⟩ := h
      split at h
      · rename_i t x
        obtain ⟨g, hg, h⟩ := h
        rw [lf_eq] at h
        obtain ⟨r0, h2, h3⟩ := h
        refine ⟨r0, h3, fun k' hk' => ?_, ?_⟩
        · unfold opQ
          simp only [he, hc, hs, has, nd, lf_eq]
          exact ⟨g, hg, r0, h2, hk'⟩
        · unfold opC callS
          simp only [he, hc, hs, has, nd, lf_eq]
          exact ⟨g, hg, h2⟩
      · exact h.elim
  · rename_i op hne
    split at h
    · rename_i hq
      obtain ⟨s, h1, h2⟩ := det_opS hq E H _ h
      refine ⟨s, h1, fun k' hk' => ?_, ?_⟩
      · have h3 := h2 (fun s _ => k' s) hk'
        have e : opQ T P o E H k' = opS T P o.op E H (fun s _ => k' s) := by
          unfold opQ
          split
          · rename_i op' c he; exact absurd he (by intro e; rw [e] at hq; cases hq)
          · rw [hq]
        rw [e]; exact h3
      · unfold opC
        split
        · rename_i op' c he; exact absurd he (by intro e; rw [e] at hq; cases hq)
        · exact h2 _ ⟨rfl, rfl⟩
    · exact h.elim
theorem stepQ_det {ops : List Oper} {o : Oper} {E : Env} {H : Hp} {k : SV → Prop} (h : stepQ T P ops o E H k) : ∃ s, k s ∧ ∀ k' : SV → Prop, k' s → stepQ T P ops o E H k' := by
  unfold stepQ at h
  split at h
  · rename_i hg
    obtain ⟨s, h1, h2, _⟩ := opQ_det h
    exact ⟨s, h1, fun k' hk' => by unfold stepQ; simp only [hg]; exact h2 k' hk'⟩
  · rename_i j want hg
    replace h := nd_elim h
    obtain ⟨d, hd, h⟩ := h
    replace h := nd_elim h
    obtain ⟨g, hgt, h⟩ := h
    split at h
    · rename_i b
      split at h
      · rcases cnd_elim h with ⟨rfl, h⟩ | ⟨rfl, h⟩
        · obtain ⟨s, h1, h2, _⟩ := opQ_det h
          exact ⟨s, h1, fun k' hk' => by unfold stepQ; simp only [hg, hd, hgt, nd]; exact h2 k' hk'⟩
        · exact ⟨_, h, fun k' hk' => by unfold stepQ; simp only [hg, hd, hgt, nd]; exact hk'⟩
      · rcases cnd_elim h with ⟨rfl, h⟩ | ⟨rfl, h⟩
        · exact ⟨_, h, fun k' hk' => by unfold stepQ; simp only [hg, hd, hgt, nd]; exact hk'⟩
        · obtain ⟨s, h1, h2, _⟩ := opQ_det h
          exact ⟨s, h1, fun k' hk' => by unfold stepQ; simp only [hg, hd, hgt, nd]; exact h2 k' hk'⟩
    · exact ⟨_, h, fun k' hk' => by unfold stepQ; simp only [hg, hd, hgt, nd]; exact hk'⟩
    · exact h.elim
/-- One step of a region, in whatever order. -/
theorem stepQ_wp (hT : TabOk T P) {ro : Option Nat} {n b0 : Nat} {β : Gh} {E : Env} {H : Hp} {a : Act} {w : World} (R : RepA n b0 β E H a w) {ops : Array Oper} {i : Nat} {o : Oper} (ho : ops[i]? = some o) {k : SV → Prop}
    (h : stepQ T P ops.toList o E H k) {next : Act → World → Prop} {Q : Exit → Act → World → Prop}
    (hk : ∀ β' s y w', Den β' s y → Rep β' H w' → Ext β H w β' H w' → k s → next (a.put o.dst y) w') : wpOpIn (W0 ro) 0 P ops Q i next a w := by
  have op : opQ T P o E H k → o.wpIn (W0 ro) 0 P a w next Q := by
    intro h
    have hnd : ∀ c, o.op ≠ .defer c := by
      intro c e
      unfold opQ at h
      rw [e] at h
      exact h
    obtain ⟨s, hs, _, hC⟩ := opQ_det h
    refine opC_wp hT R hnd hC ?_
    rintro β' s' y H' w' hd R' X' ⟨rfl, rfl⟩
    exact hk β' s' y w' hd R' X' hs
  unfold wpOpIn
  simp only [ho]
  unfold stepQ at h
  split at h
  · rename_i hg
    rw [if_pos (by simp [Region.wanted, hg])]
    exact op h
  · rename_i j want hg
    replace h := nd_elim h
    obtain ⟨d, hd, h⟩ := h
    replace h := nd_elim h
    obtain ⟨g, hgt, h⟩ := h
    obtain ⟨y, hy, hdy⟩ := R.env d g hgt
    rw [dstOf_eq] at hd
    have hd' : (ops[j]?).bind (·.dst) = some d := by simpa using hd
    have hyd : yielded ops a.tmps j = match y with | .bool b => some b | _ => none := by
      unfold yielded
      rw [hd']
      simp only [Option.bind_some, hy]
      cases y <;> rfl
    have skip : k (.v undef) → (∀ f, o.about P w a.eval = some f → (W0 ro).fn f) ∧ next (a.put o.dst undef) w := fun h => ⟨fun _ _ => trivial, hk β (.v undef) undef w rfl R.rep (Ext.refl _ _ _) h⟩
    split at h
    · rename_i b
      simp only [Den] at hdy
      subst hdy
      simp only at hyd
      have hw : Region.wanted o (yielded ops a.tmps) = (b == want) := by
        simp only [Region.wanted, hg, hyd]
        cases b <;> cases want <;> rfl
      split at h
      · rcases cnd_elim h with ⟨rfl, h⟩ | ⟨rfl, h⟩
        · rw [if_pos (by rw [hw]; rfl)]; exact op h
        · rw [if_neg (by rw [hw]; simp)]; exact skip h
      · rcases cnd_elim h with ⟨rfl, h⟩ | ⟨rfl, h⟩
        · rw [if_neg (by rw [hw]; simp)]; exact skip h
        · rw [if_pos (by rw [hw]; rfl)]; exact op h
    · rename_i ts
      simp only [Den] at hdy
      subst hdy
      simp only at hyd
      rw [if_neg (by simp [Region.wanted, hg, hyd])]
      exact skip h
    · exact h.elim
theorem depTs_congr {ops : List Oper} {σ σ' : List SV} : ∀ {l : List Edge} {E : List (Nat × SV)}, (∀ e ∈ l, nth σ e.on = nth σ' e.on) → depTs ops σ l E = depTs ops σ' l E
  | [], _, _ => rfl
  | e :: r, E, h => by
    simp only [depTs]
    rw [h e (by simp), depTs_congr (fun e he => h e (by simp [he]))]
end
/-- Whoever is listed waits for none that is not. -/
def Down (ops : List Oper) (listed : Array Bool) : Prop := ∀ (j : Nat) (o : Oper), ops[j]? = some o → listed[j]? = some true → ∀ e ∈ (bnds o.after.toList), listed[e.on]? = some true
theorem ready_nil {ops : Array Oper} {listed : Array Bool} (hok : edgesOk 0 ops.toList = true) (hs : listed.size = ops.size) (hr : Region.ready .any ops listed = []) : ∀ j, j < ops.size → listed[j]? = some true := by
  intro j
  induction j using Nat.strongRecOn with
  | _ j ih =>
    intro hj
    have hlt : j < listed.size := by omega
    cases hb : listed[j]'hlt with
    | true => rw [Array.getElem?_eq_getElem hlt, hb]
    | false =>
      exfalso
      have : j ∈ Region.ready .any ops listed := by
        rw [mem_ready]
        refine ⟨by simp [Array.getD, hlt, hb], ops[j], Array.getElem?_eq_getElem hj, fun e he hbd => ?_⟩
        have h1 := edgesOk_eq hok j ops[j] (by simp [hj]) e (bnds_of (by simpa using he) hbd)
        have h2 := ih e.on (by omega) (by omega)
        have h3 : e.on < listed.size := by omega
        rw [Array.getElem?_eq_getElem h3] at h2
        simp [Array.getD, h3]
        exact Option.some.inj h2
      rw [hr] at this
      cases this

theorem on_of {l : List Edge} {j : Nat} (h : isIn j (l.map (·.on)) = true) : ∃ e ∈ l, e.on = j := by
  obtain ⟨e, he, h2⟩ := List.mem_map.1 (isIn_eq.1 h)
  exact ⟨e, he, h2⟩
theorem set_true {listed : Array Bool} {i j : Nat} (h : listed[j]? = some true) : (listed.setIfInBounds i true)[j]? = some true := by
  have hlt := (Array.getElem?_eq_some_iff.1 h).1
  rw [Array.getElem?_setIfInBounds]
  split
  · rename_i e; subst e; simp [hlt]
  · exact h
theorem Down.set {ops : List Oper} {listed : Array Bool} (h : Down ops listed) {i : Nat} {o : Oper} (ho : ops[i]? = some o) (hi : ∀ e ∈ (bnds o.after.toList), listed[e.on]? = some true) : Down ops (listed.setIfInBounds i true) := by
  intro j p hp hj e he
  by_cases hij : i = j
  · subst hij
    rw [ho] at hp
    injection hp with hp
    subst hp
    exact set_true (hi e he)
  · rw [Array.getElem?_setIfInBounds, if_neg hij] at hj
    exact set_true (h j p hp hj e he)
end Go.Sy

