import Derived.Test.YtmjpidjdbofdjaaGreatVj
import Derived.Test.YtmjpidjdbofdjaaGreatYZ
import Derived.Test.YtmjpidjdbofdjaaGreatYG
import Derived.Lib.Strings
import Derived.Lib.Slices
import Derived.Lib.Walk
import Derived.Lib.Builder
import Derived.Lib.AppendStr
import Derived.Lib.UnsafeStr
import Derived.WalkKit
import Derived.RegionTactic
import Derived.Laws.Externs
/- Contracts: sync.Once, sync.Mutex, met by one goroutine. Contracts: crc.Sum. strings.Builder's copyCheck and String, walked with the kit's tactics. -/
set_option linter.unusedVariables false
set_option linter.unusedSimpArgs false
set_option maxRecDepth 100000
set_option maxHeartbeats 1600000
namespace Go.Proofs.YtmjpidjdbofdjaaGreat
open Go Go.Sy
theorem x_load : Ext0 Tryz.prog n_sync_atomic_LoadUint32 (Extern.Atomic.loadT (.int .u32)) := ⟨_, q_sync_atomic_LoadUint32, by kernel_rfl, by kernel_rfl, by kernel_rfl, by kernel_rfl⟩
theorem x_store : Ext0 Tryz.prog n_sync_atomic_StoreUint32 Extern.Atomic.storeT := ⟨_, q_sync_atomic_StoreUint32, by kernel_rfl, by kernel_rfl, by kernel_rfl, by kernel_rfl⟩
theorem x_cas : Ext0 Tryz.prog n_sync_atomic_CompareAndSwapInt32 (Extern.Atomic.casT (.int .i32)) := ⟨_, q_sync_atomic_CompareAndSwapInt32, by kernel_rfl, by kernel_rfl, by kernel_rfl, by kernel_rfl⟩
theorem x_add : Ext0 Tryz.prog n_sync_atomic_AddInt32 (Extern.Atomic.update (Op.intArith .add) .i32 true) := ⟨_, q_sync_atomic_AddInt32, by kernel_rfl, by kernel_rfl, by kernel_rfl, by kernel_rfl⟩
theorem x_dis : Ext0 Tryz.prog n_internal_race_Disable (fun _ => do mark .disable; pure Extern.Race.none_) := ⟨_, q_internal_race_Disable, by kernel_rfl, by kernel_rfl, by kernel_rfl, by kernel_rfl⟩
theorem x_en : Ext0 Tryz.prog n_internal_race_Enable (fun _ => do mark .enable; pure Extern.Race.none_) := ⟨_, q_internal_race_Enable, by kernel_rfl, by kernel_rfl, by kernel_rfl, by kernel_rfl⟩
theorem x_acq : Ext0 Tryz.prog n_internal_race_Acquire (Extern.Race.marked .acquire) := ⟨_, q_internal_race_Acquire, by kernel_rfl, by kernel_rfl, by kernel_rfl, by kernel_rfl⟩
theorem x_rel : Ext0 Tryz.prog n_internal_race_ReleaseMerge (Extern.Race.marked .releaseMerge) := ⟨_, q_internal_race_ReleaseMerge, by kernel_rfl, by kernel_rfl, by kernel_rfl, by kernel_rfl⟩
def u32v (z : Int) : SV := .v (.int .u32 z)
def R16 : List Int := [0, 498536548, 997073096, 651767980, 1994146192, 1802195444, 1303535960, 1342533948, 3988292384, 4027552580, 3604390888, 3412177804, 2607071920, 2262029012, 2685067896, 3183342108]
/-- The box of a table: made, or not yet; its lock. -/
def tbx (d l : Int) (r : List Int) : List SV := .v (.int .u32 d) :: .v (.int .i32 l) :: .v (.int .u32 0) :: r.map u32v
def Z16 : List Int := [0, 0, 0, 0, 0, 0, 0, 0, 0, 0, 0, 0, 0, 0, 0, 0]
theorem t_fill (d l : Int) : Tr Tryz.prog n_crc_table_fill [.loc 0 0] ⟨1, [.c (tbx d l Z16)], []⟩ fun r H' => r = .tup [] ∧ H' = ⟨1, [.c (tbx d l R16)], []⟩ := by
  refine Tr.of_body tabOk q_crc_table_fill (by kernel_rfl) ?_
  conv => whnf
  repeat' (first
    | (refine bltG (by first | omega | (simp only [List.length_map] at *; omega)) ?_; conv => whnf)
    | (refine ndG (by assumption) ?_; conv => whnf)
    | (refine mulG ?_; conv => whnf)
    | (refine And.intro rfl ?_; conv => whnf)
    | (refine dsT (by assumption) ?_; conv => whnf)
    | (refine dsF (by assumption) ?_; conv => whnf)
    | (refine nsT (by assumption) ?_; conv => whnf)
    | (refine nsF (by assumption) ?_; conv => whnf)
    | (refine bsT (by assumption) ?_; conv => whnf)
    | (refine bsF (by assumption) ?_; conv => whnf)
    | (refine dsp ?_ ?_ <;> intro _ <;> conv => whnf)
    | (refine nsp ?_ ?_ <;> intro _ <;> conv => whnf)
    | (refine cnd_true (by assumption) ?_; conv => whnf)
    | (refine cnd_false (by assumption) ?_; conv => whnf)
    | (refine cnd_split ?_ ?_ <;> intro _ <;> conv => whnf)
    | (refine Cd.par tabOk (by kernel_rfl) (by kernel_rfl) ?_; conv => whnf)
    | (refine Cd.unroll tabOk 17 ?_; conv => whnf))
  kernel_rfl
/-- The box of a table, as a state. -/
def tst (d l : Int) (r : List Int) : Hp := ⟨1, [.c (tbx d l r)], []⟩
abbrev UNS : (∃ t, Tryz.prog.underlying 177 = some (TypeDesc.pointer t) ∧ Tryz.prog.underlying t_unsafe_Pointer = some TypeDesc.unsafePointer ∧ (Tryz.prog.info? t).map (fun i => decide (i.size = 0)) = some false) := ⟨t_sync_Mutex, by kernel_rfl, u_unsafe_Pointer, by kernel_rfl⟩
theorem t_do_done (l : Int) (r0 r1 r2 r3 r4 r5 r6 r7 r8 r9 r10 r11 r12 r13 r14 r15 : Int) (f : SV) : Tr Tryz.prog n_sync_Once_Do [.loc 0 0, f] (tst 1 l [r0, r1, r2, r3, r4, r5, r6, r7, r8, r9, r10, r11, r12, r13, r14, r15]) fun r H' => H' = tst 1 l [r0, r1, r2, r3, r4, r5, r6, r7, r8, r9, r10, r11, r12, r13, r14, r15] := by
  refine Tr.of_body tabOk q_sync_Once_Do (by kernel_rfl) ?_
  conv => whnf
  repeat' (first
    | (refine Tr.atLd x_load rfl rfl ?_; conv => whnf)
    | (refine bltG (by first | omega | (simp only [List.length_map] at *; omega)) ?_; conv => whnf)
    | (refine ndG (by assumption) ?_; conv => whnf)
    | (refine mulG ?_; conv => whnf)
    | (refine And.intro rfl ?_; conv => whnf)
    | (refine dsT (by assumption) ?_; conv => whnf)
    | (refine dsF (by assumption) ?_; conv => whnf)
    | (refine nsT (by assumption) ?_; conv => whnf)
    | (refine nsF (by assumption) ?_; conv => whnf)
    | (refine bsT (by assumption) ?_; conv => whnf)
    | (refine bsF (by assumption) ?_; conv => whnf)
    | (refine dsp ?_ ?_ <;> intro _ <;> conv => whnf)
    | (refine nsp ?_ ?_ <;> intro _ <;> conv => whnf)
    | (refine cnd_true (by assumption) ?_; conv => whnf)
    | (refine cnd_false (by assumption) ?_; conv => whnf)
    | (refine cnd_split ?_ ?_ <;> intro _ <;> conv => whnf)
    | (refine Cd.par tabOk (by kernel_rfl) (by kernel_rfl) ?_; conv => whnf)
    | (refine Tr.of_body tabOk q_sync_atomic_Bool_Load (by kernel_rfl) ?_; conv => whnf))
theorem t_store (l : Int) (r0 r1 r2 r3 r4 r5 r6 r7 r8 r9 r10 r11 r12 r13 r14 r15 : Int) : TrD Tryz.prog n_sync_atomic_Bool_Store [.loc 0 0, .v (.bool true)] (tst 0 l [r0, r1, r2, r3, r4, r5, r6, r7, r8, r9, r10, r11, r12, r13, r14, r15]) fun H' => H' = tst 1 l [r0, r1, r2, r3, r4, r5, r6, r7, r8, r9, r10, r11, r12, r13, r14, r15] := by
  refine TrD.of_body tabOk q_sync_atomic_Bool_Store (by kernel_rfl) ?_
  conv => whnf
  refine Cd.parT tabOk (by kernel_rfl) [5] (by kernel_rfl) ?_
  conv => whnf
  have hb : Fc Tryz.prog n_sync_atomic_b32 [sb true] (u32v 1) := by
    refine Fc.of_body tabOk q_sync_atomic_b32 (by kernel_rfl) (rfl) (rfl) ?_
    conv => whnf
    repeat' (first
      | (refine bltG (by first | omega | (simp only [List.length_map] at *; omega)) ?_; conv => whnf)
      | (refine ndG (by assumption) ?_; conv => whnf)
      | (refine mulG ?_; conv => whnf)
      | (refine And.intro rfl ?_; conv => whnf)
      | (refine dsT (by assumption) ?_; conv => whnf)
      | (refine dsF (by assumption) ?_; conv => whnf)
      | (refine nsT (by assumption) ?_; conv => whnf)
      | (refine nsF (by assumption) ?_; conv => whnf)
      | (refine bsT (by assumption) ?_; conv => whnf)
      | (refine bsF (by assumption) ?_; conv => whnf)
      | (refine dsp ?_ ?_ <;> intro _ <;> conv => whnf)
      | (refine nsp ?_ ?_ <;> intro _ <;> conv => whnf)
      | (refine cnd_true (by assumption) ?_; conv => whnf)
      | (refine cnd_false (by assumption) ?_; conv => whnf)
      | (refine cnd_split ?_ ?_ <;> intro _ <;> conv => whnf)
      | (refine Cd.par tabOk (by kernel_rfl) (by kernel_rfl) ?_; conv => whnf))
    rfl
  repeat' (first
    | (refine Tr.atSt x_store rfl rfl ?_; conv => whnf)
    | (refine bltG (by first | omega | (simp only [List.length_map] at *; omega)) ?_; conv => whnf)
    | (refine ndG (by assumption) ?_; conv => whnf)
    | (refine mulG ?_; conv => whnf)
    | (refine And.intro rfl ?_; conv => whnf)
    | (refine dsT (by assumption) ?_; conv => whnf)
    | (refine dsF (by assumption) ?_; conv => whnf)
    | (refine nsT (by assumption) ?_; conv => whnf)
    | (refine nsF (by assumption) ?_; conv => whnf)
    | (refine bsT (by assumption) ?_; conv => whnf)
    | (refine bsF (by assumption) ?_; conv => whnf)
    | (refine dsp ?_ ?_ <;> intro _ <;> conv => whnf)
    | (refine nsp ?_ ?_ <;> intro _ <;> conv => whnf)
    | (refine cnd_true (by assumption) ?_; conv => whnf)
    | (refine cnd_false (by assumption) ?_; conv => whnf)
    | (refine cnd_split ?_ ?_ <;> intro _ <;> conv => whnf)
    | (refine Cd.par tabOk (by kernel_rfl) (by kernel_rfl) ?_; conv => whnf)
    | rfl
    | exact True.intro
    | (refine And.intro ?_ ?_ <;> conv => whnf)
    | (refine Fc.use (hb) ?_ ?_; (focus ((repeat' constructor); done)); conv => whnf)
    | (refine CallQ.of (hb) ?_ ?_; (focus ((repeat' constructor); done)); conv => whnf))
theorem t_unlock (d : Int) (r0 r1 r2 r3 r4 r5 r6 r7 r8 r9 r10 r11 r12 r13 r14 r15 : Int) : TrD Tryz.prog n_sync_Mutex_Unlock [.loc 0 1] (tst d 1 [r0, r1, r2, r3, r4, r5, r6, r7, r8, r9, r10, r11, r12, r13, r14, r15]) fun H' => H' = tst d 0 [r0, r1, r2, r3, r4, r5, r6, r7, r8, r9, r10, r11, r12, r13, r14, r15] := by
  refine TrD.of_body tabOk q_sync_Mutex_Unlock (by kernel_rfl) ?_
  conv => whnf
  repeat' (first
    | (refine And.intro UNS ?_; conv => whnf)
    | (refine Tr.marked x_rel ?_; conv => whnf)
    | (refine Tr.atAdd x_add rfl rfl ?_; conv => whnf)
    | (refine Tr.mark0 x_en ?_; conv => whnf)
    | (refine Tr.mark0 x_dis ?_; conv => whnf)
    | (refine bltG (by first | omega | (simp only [List.length_map] at *; omega)) ?_; conv => whnf)
    | (refine ndG (by assumption) ?_; conv => whnf)
    | (refine mulG ?_; conv => whnf)
    | (refine And.intro rfl ?_; conv => whnf)
    | (refine dsT (by assumption) ?_; conv => whnf)
    | (refine dsF (by assumption) ?_; conv => whnf)
    | (refine nsT (by assumption) ?_; conv => whnf)
    | (refine nsF (by assumption) ?_; conv => whnf)
    | (refine bsT (by assumption) ?_; conv => whnf)
    | (refine bsF (by assumption) ?_; conv => whnf)
    | (refine dsp ?_ ?_ <;> intro _ <;> conv => whnf)
    | (refine nsp ?_ ?_ <;> intro _ <;> conv => whnf)
    | (refine cnd_true (by assumption) ?_; conv => whnf)
    | (refine cnd_false (by assumption) ?_; conv => whnf)
    | (refine cnd_split ?_ ?_ <;> intro _ <;> conv => whnf)
    | (refine Cd.par tabOk (by kernel_rfl) (by kernel_rfl) ?_; conv => whnf)
    | (refine Tr.of_body tabOk q_internal_sync_Mutex_Unlock (by kernel_rfl) ?_; conv => whnf))
  kernel_rfl
theorem TrD.thn {P : Program} {f : FuncId} {args : List SV} {H X : Hp} {K : Hp → Prop} (h : TrD P f args H fun H' => H' = X) (hk : K X) : TrD P f args H K :=
  ⟨fun β w xs u R hd => (h.run β w xs u R hd).mono fun e u' w' ⟨h1, x, h2, H', β', h3, h4, h5⟩ => ⟨h1, x, h2, H', β', h3, h4, h5 ▸ hk⟩⟩
theorem Tr.thn {P : Program} {f : FuncId} {args : List SV} {H X : Hp} {r0 : SV} {K : SV → Hp → Prop} (h : Tr P f args H fun r H' => r = r0 ∧ H' = X) (hk : K r0 X) : Tr P f args H K :=
  h.mono fun r H' ⟨h1, h2⟩ => by rw [h1, h2]; exact hk
theorem t_slow : Tr Tryz.prog n_sync_Once_doSlow [.loc 0 0, .clo (.func n_crc_table_fill) [.loc 0 0] []] (tst 0 0 Z16) fun r H' => r = .tup [] ∧ H' = tst 1 0 R16 := by
  refine Tr.of_bodyD tabOk q_sync_Once_doSlow (by kernel_rfl) ?_
  conv => whnf
  repeat' (first
    | (refine Tr.thn (t_fill 0 1) ?_; conv => whnf)
    | (refine Tr.atLd x_load rfl rfl ?_; conv => whnf)
    | (refine And.intro UNS ?_; conv => whnf)
    | (refine Tr.marked x_acq ?_; conv => whnf)
    | (refine Tr.atCas x_cas rfl rfl ?_; conv => whnf)
    | (refine Tr.mark0 x_en ?_; conv => whnf)
    | (refine Tr.mark0 x_dis ?_; conv => whnf)
    | (refine bltG (by first | omega | (simp only [List.length_map] at *; omega)) ?_; conv => whnf)
    | (refine ndG (by assumption) ?_; conv => whnf)
    | (refine mulG ?_; conv => whnf)
    | (refine And.intro rfl ?_; conv => whnf)
    | (refine dsT (by assumption) ?_; conv => whnf)
    | (refine dsF (by assumption) ?_; conv => whnf)
    | (refine nsT (by assumption) ?_; conv => whnf)
    | (refine nsF (by assumption) ?_; conv => whnf)
    | (refine bsT (by assumption) ?_; conv => whnf)
    | (refine bsF (by assumption) ?_; conv => whnf)
    | (refine dsp ?_ ?_ <;> intro _ <;> conv => whnf)
    | (refine nsp ?_ ?_ <;> intro _ <;> conv => whnf)
    | (refine cnd_true (by assumption) ?_; conv => whnf)
    | (refine cnd_false (by assumption) ?_; conv => whnf)
    | (refine cnd_split ?_ ?_ <;> intro _ <;> conv => whnf)
    | (refine Cd.par tabOk (by kernel_rfl) (by kernel_rfl) ?_; conv => whnf)
    | (refine Tr.of_body tabOk q_sync_Mutex_Lock (by kernel_rfl) ?_; conv => whnf)
    | (refine Tr.of_body tabOk q_internal_sync_Mutex_Lock (by kernel_rfl) ?_; conv => whnf)
    | (refine Tr.of_body tabOk q_sync_atomic_Bool_Load (by kernel_rfl) ?_; conv => whnf))
  refine And.intro ⟨_, q_sync_atomic_Bool_Store, by kernel_rfl⟩ ?_
  refine TrD.thn (t_store 1 _ _ _ _ _ _ _ _ _ _ _ _ _ _ _ _) ?_
  conv => whnf
  refine And.intro ⟨_, q_sync_Mutex_Unlock, by kernel_rfl⟩ ?_
  refine TrD.thn (t_unlock 1 _ _ _ _ _ _ _ _ _ _ _ _ _ _ _ _) ?_
  conv => whnf
  exact ⟨rfl, rfl⟩
theorem t_do_first : Tr Tryz.prog n_sync_Once_Do [.loc 0 0, .clo (.func n_crc_table_fill) [.loc 0 0] []] (tst 0 0 Z16) fun r H' => r = .tup [] ∧ H' = tst 1 0 R16 := by
  refine Tr.of_body tabOk q_sync_Once_Do (by kernel_rfl) ?_
  conv => whnf
  repeat' (first
    | (refine Tr.thn t_slow ?_; conv => whnf)
    | (refine Tr.atLd x_load rfl rfl ?_; conv => whnf)
    | (refine bltG (by first | omega | (simp only [List.length_map] at *; omega)) ?_; conv => whnf)
    | (refine ndG (by assumption) ?_; conv => whnf)
    | (refine mulG ?_; conv => whnf)
    | (refine And.intro rfl ?_; conv => whnf)
    | (refine dsT (by assumption) ?_; conv => whnf)
    | (refine dsF (by assumption) ?_; conv => whnf)
    | (refine nsT (by assumption) ?_; conv => whnf)
    | (refine nsF (by assumption) ?_; conv => whnf)
    | (refine bsT (by assumption) ?_; conv => whnf)
    | (refine bsF (by assumption) ?_; conv => whnf)
    | (refine dsp ?_ ?_ <;> intro _ <;> conv => whnf)
    | (refine nsp ?_ ?_ <;> intro _ <;> conv => whnf)
    | (refine cnd_true (by assumption) ?_; conv => whnf)
    | (refine cnd_false (by assumption) ?_; conv => whnf)
    | (refine cnd_split ?_ ?_ <;> intro _ <;> conv => whnf)
    | (refine Cd.par tabOk (by kernel_rfl) (by kernel_rfl) ?_; conv => whnf)
    | (refine Tr.of_body tabOk q_sync_atomic_Bool_Load (by kernel_rfl) ?_; conv => whnf))
  all_goals exact ⟨rfl, rfl⟩
theorem t_do_again (f : SV) : Tr Tryz.prog n_sync_Once_Do [.loc 0 0, f] (tst 1 0 R16) fun r H' => r = .tup [] ∧ H' = tst 1 0 R16 := by
  refine Tr.of_body tabOk q_sync_Once_Do (by kernel_rfl) ?_
  conv => whnf
  repeat' (first
    | (refine Tr.atLd x_load rfl rfl ?_; conv => whnf)
    | (refine bltG (by first | omega | (simp only [List.length_map] at *; omega)) ?_; conv => whnf)
    | (refine ndG (by assumption) ?_; conv => whnf)
    | (refine mulG ?_; conv => whnf)
    | (refine And.intro rfl ?_; conv => whnf)
    | (refine dsT (by assumption) ?_; conv => whnf)
    | (refine dsF (by assumption) ?_; conv => whnf)
    | (refine nsT (by assumption) ?_; conv => whnf)
    | (refine nsF (by assumption) ?_; conv => whnf)
    | (refine bsT (by assumption) ?_; conv => whnf)
    | (refine bsF (by assumption) ?_; conv => whnf)
    | (refine dsp ?_ ?_ <;> intro _ <;> conv => whnf)
    | (refine nsp ?_ ?_ <;> intro _ <;> conv => whnf)
    | (refine cnd_true (by assumption) ?_; conv => whnf)
    | (refine cnd_false (by assumption) ?_; conv => whnf)
    | (refine cnd_split ?_ ?_ <;> intro _ <;> conv => whnf)
    | (refine Cd.par tabOk (by kernel_rfl) (by kernel_rfl) ?_; conv => whnf)
    | (refine Tr.of_body tabOk q_sync_atomic_Bool_Load (by kernel_rfl) ?_; conv => whnf))
  all_goals exact ⟨rfl, rfl⟩
end Go.Proofs.YtmjpidjdbofdjaaGreat
namespace Go.Proofs.YtmjpidjdbofdjaaGreat
open Go Go.Sy
def ixN (n p : Int) : Int := bitI .and .u32 (bitI .xor .u32 n (IntKind.wrap .u32 p)) 15
def stN (n p : Int) : Int := bitI .xor .u32 (R16.getD (ixN n p).toNat 0) (n.fdiv (2 ^ (min 4 IntKind.u32.bits)))
theorem ixN_bd (n p : Int) : 0 ≤ ixN n p ∧ ixN n p < (16 : Nat) := by
  unfold ixN bitI
  simp only
  generalize BitVec.ofInt IntKind.u32.bits (IntKind.wrap .u32 (BitVec.ofInt IntKind.u32.bits n ^^^ BitVec.ofInt IntKind.u32.bits (IntKind.wrap .u32 p)).toNat) = b
  have h : (b &&& BitVec.ofInt IntKind.u32.bits 15).toNat < 16 := by
    rw [BitVec.toNat_and]
    have : (BitVec.ofInt IntKind.u32.bits 15).toNat = 15 := by decide
    rw [this]
    exact Nat.lt_of_le_of_lt Nat.and_le_right (by omega)
  rw [IntKind.wrap_u32]
  omega
theorem rowX {m : Nat} (h : m < 16) : (tbx 1 0 R16)[0 + (3, 16, true).1 + m * 1]? = some (u32v (R16.getD m 0)) := by
  have : ∀ k : Fin 16, (tbx 1 0 R16)[0 + (3, 16, true).1 + k.1 * 1]? = some (u32v (R16.getD k.1 0)) := by
    intro k
    match k with
    | ⟨0, _⟩ => rfl
    | ⟨1, _⟩ => rfl
    | ⟨2, _⟩ => rfl
    | ⟨3, _⟩ => rfl
    | ⟨4, _⟩ => rfl
    | ⟨5, _⟩ => rfl
    | ⟨6, _⟩ => rfl
    | ⟨7, _⟩ => rfl
    | ⟨8, _⟩ => rfl
    | ⟨9, _⟩ => rfl
    | ⟨10, _⟩ => rfl
    | ⟨11, _⟩ => rfl
    | ⟨12, _⟩ => rfl
    | ⟨13, _⟩ => rfl
    | ⟨14, _⟩ => rfl
    | ⟨15, _⟩ => rfl
    | ⟨j + 16, hj⟩ => exact absurd hj (by omega)
  exact this ⟨m, h⟩
theorem t_step_again (n p : Int) : Tr Tryz.prog n_crc_table_step [.loc 0 0, u32v n, .v (.int .u8 p)] (tst 1 0 R16) fun r H' => r = u32v (stN n p) ∧ H' = tst 1 0 R16 := by
  obtain ⟨h0, h1⟩ := ixN_bd n p
  refine Tr.of_body tabOk q_crc_table_step (by kernel_rfl) ?_
  conv => whnf
  have h2 : (ixN n p).toNat < 16 := by omega
  have hx : (tbx 1 0 R16)[0 + (3, 16, true).1 + (ixN n p).toNat * 1]? = some (u32v (R16.getD (ixN n p).toNat 0)) := rowX h2
  repeat' (first
    | (refine ndX hx ?_; conv => whnf)
    | (refine bltG (m := (ixN n p).toNat) h2 ?_; conv => whnf)
    | (refine Tr.thn (t_do_again _) ?_; conv => whnf)
    | (refine bltG (by first | omega | (simp only [List.length_map] at *; omega)) ?_; conv => whnf)
    | (refine ndG (by assumption) ?_; conv => whnf)
    | (refine mulG ?_; conv => whnf)
    | (refine And.intro rfl ?_; conv => whnf)
    | (refine dsT (by assumption) ?_; conv => whnf)
    | (refine dsF (by assumption) ?_; conv => whnf)
    | (refine nsT (by assumption) ?_; conv => whnf)
    | (refine nsF (by assumption) ?_; conv => whnf)
    | (refine bsT (by assumption) ?_; conv => whnf)
    | (refine bsF (by assumption) ?_; conv => whnf)
    | (refine dsp ?_ ?_ <;> intro _ <;> conv => whnf)
    | (refine nsp ?_ ?_ <;> intro _ <;> conv => whnf)
    | (refine cnd_true (by assumption) ?_; conv => whnf)
    | (refine cnd_false (by assumption) ?_; conv => whnf)
    | (refine cnd_split ?_ ?_ <;> intro _ <;> conv => whnf)
    | (refine Cd.par tabOk (by kernel_rfl) (by kernel_rfl) ?_; conv => whnf))
  all_goals exact ⟨rfl, rfl⟩
theorem t_step_first (n p : Int) : Tr Tryz.prog n_crc_table_step [.loc 0 0, u32v n, .v (.int .u8 p)] (tst 0 0 Z16) fun r H' => r = u32v (stN n p) ∧ H' = tst 1 0 R16 := by
  obtain ⟨h0, h1⟩ := ixN_bd n p
  have h2 : (ixN n p).toNat < 16 := by omega
  have hx : (tbx 1 0 R16)[0 + (3, 16, true).1 + (ixN n p).toNat * 1]? = some (u32v (R16.getD (ixN n p).toNat 0)) := rowX h2
  refine Tr.of_body tabOk q_crc_table_step (by kernel_rfl) ?_
  conv => whnf
  repeat' (first
    | (refine ndX hx ?_; conv => whnf)
    | (refine bltG (m := (ixN n p).toNat) h2 ?_; conv => whnf)
    | (refine Tr.thn t_do_first ?_; conv => whnf)
    | (refine bltG (by first | omega | (simp only [List.length_map] at *; omega)) ?_; conv => whnf)
    | (refine ndG (by assumption) ?_; conv => whnf)
    | (refine mulG ?_; conv => whnf)
    | (refine And.intro rfl ?_; conv => whnf)
    | (refine dsT (by assumption) ?_; conv => whnf)
    | (refine dsF (by assumption) ?_; conv => whnf)
    | (refine nsT (by assumption) ?_; conv => whnf)
    | (refine nsF (by assumption) ?_; conv => whnf)
    | (refine bsT (by assumption) ?_; conv => whnf)
    | (refine bsF (by assumption) ?_; conv => whnf)
    | (refine dsp ?_ ?_ <;> intro _ <;> conv => whnf)
    | (refine nsp ?_ ?_ <;> intro _ <;> conv => whnf)
    | (refine cnd_true (by assumption) ?_; conv => whnf)
    | (refine cnd_false (by assumption) ?_; conv => whnf)
    | (refine cnd_split ?_ ?_ <;> intro _ <;> conv => whnf)
    | (refine Cd.par tabOk (by kernel_rfl) (by kernel_rfl) ?_; conv => whnf))
  all_goals exact ⟨rfl, rfl⟩
/-- Behind a byte. -/
def stB (n b : Int) : Int := stN (stN n (bitI .and .u8 b 15)) (b.fdiv (2 ^ (min 4 IntKind.u8.bits)))
def crcI (n : Int) (s : ByteArray) : Nat → Int
  | 0 => n
  | i + 1 => stB (crcI n s i) (bt s i)
def stX : Nat → List Bx
  | 0 => [.c (tbx 0 0 Z16)]
  | _ + 1 => [.c (tbx 1 0 R16)]
theorem c_crc_on (n : Int) (s : ByteArray) (hs : s.size < 2 ^ 40) : Fc Tryz.prog n_crc_on [u32v n, ss s] (u32v (crcI n s s.size)) := by
  refine Fc.of_body tabOk q_crc_on (by kernel_rfl) (rfl) (rfl) ?_
  conv => whnf
  refine loopP tabOk (fun i : Nat => i ≤ s.size) (fun i => ⟨[(11, iv i), (10, iv s.size), (5, .loc 0 0), (0, u32v (crcI n s i)), (1, ss s)], []⟩) (fun i => ⟨1, stX i, []⟩) (fun i => s.size - i) 0 (Nat.zero_le _) (by repeat' constructor) (fun _ => rfl) ?_
  intro i hi
  by_cases hlt : i < s.size
  · have hlt' : (i : Int) < (s.size : Nat) := by omega
    cases i with
    | zero =>
      have s1 := t_step_first (crcI n s 0) (bitI .and .u8 (bt s 0) 15)
      have s2 := t_step_again (stN (crcI n s 0) (bitI .and .u8 (bt s 0) 15)) ((bt s 0).fdiv (2 ^ (min 4 IntKind.u8.bits)))
      conv => whnf
      repeat' (first
        | (refine Tr.thn s2 ?_; conv => whnf)
        | (refine Tr.thn s1 ?_; conv => whnf)
        | (refine Cd.parS tabOk (by kernel_rfl) [7, 12] (by kernel_rfl) ?_; conv => whnf)
        | (refine bltG (by first | omega | (simp only [List.length_map] at *; omega)) ?_; conv => whnf)
        | (refine ndG (by assumption) ?_; conv => whnf)
        | (refine mulG ?_; conv => whnf)
        | (refine And.intro rfl ?_; conv => whnf)
        | (refine dsT (by assumption) ?_; conv => whnf)
        | (refine dsF (by assumption) ?_; conv => whnf)
        | (refine nsT (by assumption) ?_; conv => whnf)
        | (refine nsF (by assumption) ?_; conv => whnf)
        | (refine bsT (by assumption) ?_; conv => whnf)
        | (refine bsF (by assumption) ?_; conv => whnf)
        | (refine dsp ?_ ?_ <;> intro _ <;> conv => whnf)
        | (refine nsp ?_ ?_ <;> intro _ <;> conv => whnf)
        | (refine cnd_true (by assumption) ?_; conv => whnf)
        | (refine cnd_false (by assumption) ?_; conv => whnf)
        | (refine cnd_split ?_ ?_ <;> intro _ <;> conv => whnf)
        | (refine Cd.par tabOk (by kernel_rfl) (by kernel_rfl) ?_; conv => whnf)
        | rfl
        | exact True.intro
        | (refine And.intro ?_ ?_ <;> conv => whnf))
      refine ⟨1, by omega, ?_, ?_⟩
      · first | omega | (simp only [List.length_map] at *; omega)
      · (repeat' constructor) <;> first | (refine ivW ?_ ?_ ?_ <;> first | omega | (dsimp only; omega))
    | succ i =>
      have s1 := t_step_again (crcI n s (i + 1)) (bitI .and .u8 (bt s (i + 1)) 15)
      have s2 := t_step_again (stN (crcI n s (i + 1)) (bitI .and .u8 (bt s (i + 1)) 15)) ((bt s (i + 1)).fdiv (2 ^ (min 4 IntKind.u8.bits)))
      conv => whnf
      repeat' (first
        | (refine Tr.thn s2 ?_; conv => whnf)
        | (refine Tr.thn s1 ?_; conv => whnf)
        | (refine Cd.parS tabOk (by kernel_rfl) [7, 12] (by kernel_rfl) ?_; conv => whnf)
        | (refine bltG (by first | omega | (simp only [List.length_map] at *; omega)) ?_; conv => whnf)
        | (refine ndG (by assumption) ?_; conv => whnf)
        | (refine mulG ?_; conv => whnf)
        | (refine And.intro rfl ?_; conv => whnf)
        | (refine dsT (by assumption) ?_; conv => whnf)
        | (refine dsF (by assumption) ?_; conv => whnf)
        | (refine nsT (by assumption) ?_; conv => whnf)
        | (refine nsF (by assumption) ?_; conv => whnf)
        | (refine bsT (by assumption) ?_; conv => whnf)
        | (refine bsF (by assumption) ?_; conv => whnf)
        | (refine dsp ?_ ?_ <;> intro _ <;> conv => whnf)
        | (refine nsp ?_ ?_ <;> intro _ <;> conv => whnf)
        | (refine cnd_true (by assumption) ?_; conv => whnf)
        | (refine cnd_false (by assumption) ?_; conv => whnf)
        | (refine cnd_split ?_ ?_ <;> intro _ <;> conv => whnf)
        | (refine Cd.par tabOk (by kernel_rfl) (by kernel_rfl) ?_; conv => whnf)
        | rfl
        | exact True.intro
        | (refine And.intro ?_ ?_ <;> conv => whnf))
      refine ⟨i + 1 + 1, by omega, ?_, ?_⟩
      · first | omega | (simp only [List.length_map] at *; omega)
      · (repeat' constructor) <;> first | (refine ivW ?_ ?_ ?_ <;> first | omega | (dsimp only; omega))
  · obtain rfl : i = s.size := by omega
    have hlt' : ¬ (s.size : Int) < (s.size : Nat) := by omega
    conv => whnf
    repeat' (first
      | (refine bltG (by first | omega | (simp only [List.length_map] at *; omega)) ?_; conv => whnf)
      | (refine ndG (by assumption) ?_; conv => whnf)
      | (refine mulG ?_; conv => whnf)
      | (refine And.intro rfl ?_; conv => whnf)
      | (refine dsT (by assumption) ?_; conv => whnf)
      | (refine dsF (by assumption) ?_; conv => whnf)
      | (refine nsT (by assumption) ?_; conv => whnf)
      | (refine nsF (by assumption) ?_; conv => whnf)
      | (refine bsT (by assumption) ?_; conv => whnf)
      | (refine bsF (by assumption) ?_; conv => whnf)
      | (refine dsp ?_ ?_ <;> intro _ <;> conv => whnf)
      | (refine nsp ?_ ?_ <;> intro _ <;> conv => whnf)
      | (refine cnd_true (by assumption) ?_; conv => whnf)
      | (refine cnd_false (by assumption) ?_; conv => whnf)
      | (refine cnd_split ?_ ?_ <;> intro _ <;> conv => whnf)
      | (refine Cd.par tabOk (by kernel_rfl) (by kernel_rfl) ?_; conv => whnf))
    all_goals rfl
def crcS (s : ByteArray) : Int := IntKind.wrap .i64 (bitI .xor .u32 IntKind.u32.max (crcI 4294967295 s s.size))
theorem c_crc_Sum (s : ByteArray) (hs : s.size < 2 ^ 40) : Fc Tryz.prog n_crc_Sum [ss s] (iv (crcS s)) := by
  have h := c_crc_on 4294967295 s hs
  refine Fc.of_body tabOk q_crc_Sum (by kernel_rfl) (rfl) (rfl) ?_
  conv => whnf
  repeat' (first
    | (refine bltG (by first | omega | (simp only [List.length_map] at *; omega)) ?_; conv => whnf)
    | (refine ndG (by assumption) ?_; conv => whnf)
    | (refine mulG ?_; conv => whnf)
    | (refine And.intro rfl ?_; conv => whnf)
    | (refine dsT (by assumption) ?_; conv => whnf)
    | (refine dsF (by assumption) ?_; conv => whnf)
    | (refine nsT (by assumption) ?_; conv => whnf)
    | (refine nsF (by assumption) ?_; conv => whnf)
    | (refine bsT (by assumption) ?_; conv => whnf)
    | (refine bsF (by assumption) ?_; conv => whnf)
    | (refine dsp ?_ ?_ <;> intro _ <;> conv => whnf)
    | (refine nsp ?_ ?_ <;> intro _ <;> conv => whnf)
    | (refine cnd_true (by assumption) ?_; conv => whnf)
    | (refine cnd_false (by assumption) ?_; conv => whnf)
    | (refine cnd_split ?_ ?_ <;> intro _ <;> conv => whnf)
    | (refine Cd.par tabOk (by kernel_rfl) (by kernel_rfl) ?_; conv => whnf)
    | (refine Fc.use (h) ?_ ?_; (focus ((repeat' constructor); done)); conv => whnf)
    | (refine CallQ.of (h) ?_ ?_; (focus ((repeat' constructor); done)); conv => whnf))
  rfl
theorem bitI_u32 (op : BinOp) (x y : Int) : 0 ≤ bitI op .u32 x y ∧ bitI op .u32 x y < 4294967296 := by
  unfold bitI
  split <;> (rw [IntKind.wrap_u32]; omega)
theorem crcS_bd (s : ByteArray) : 0 ≤ crcS s ∧ crcS s < 4294967296 := by
  unfold crcS
  have h := bitI_u32 .xor IntKind.u32.max (crcI 4294967295 s s.size)
  rw [wrap_i64 (by omega) (by omega)]
  exact h
end Go.Proofs.YtmjpidjdbofdjaaGreat
namespace Go.Proofs.YtmjpidjdbofdjaaGreat
open Go Go.Sy
def badr (b : Nat) : Value := .pointer (some ⟨b, 0, none⟩)
theorem cc_used (b : Nat) (w : World) (h0 : w.cell? ⟨b, 0, none⟩ = some (.pointer (some ⟨b, 0, none⟩))) :
    Calls Tryz.prog n_strings_Builder_copyCheck #[.pointer (some ⟨b, 0, none⟩)] w fun e w' => e = .returned (.tuple #[]) ∧ w' = w := by
  obtain ⟨j, hj, _⟩ := Option.map_eq_some_iff.1 (show (Tryz.prog.info? t_strings_Builder).map (fun i => decide (i.size = 0)) = some false by kernel_rfl)
  go_enter Tryz.func113, Tryz.ntmps113
  go_wp2
  rw [Lib.run_neq_ptr_same w _ Tryz.underlying103 hj]
  go_wp2
  go_end0
  exact ⟨rfl, rfl⟩
theorem lies_b : liesAt Tryz.prog Tryz.prog.depth t_entry_writer (2 / Tryz.prog.cellsOf t_entry_writer) 0 t_strings_Builder 1 = true := by kernel_rfl
theorem cc_fresh (b : Nat) (w : World) (h0 : w.cell? ⟨b, 0, none⟩ = some (.pointer none)) (hsh : w.shape? b = some (t_entry_writer, 2)) (hfz : w.frozen? ⟨b, 0, none⟩ = false) :
    Calls Tryz.prog n_strings_Builder_copyCheck #[.pointer (some ⟨b, 0, none⟩)] w fun e w' => e = .returned (.tuple #[]) ∧ w' = w.setCell ⟨b, 0, none⟩ (.pointer (some ⟨b, 0, none⟩)) := by
  obtain ⟨j, hj, hjs⟩ := Option.map_eq_some_iff.1 (show (Tryz.prog.info? t_strings_Builder).map (fun i => decide (i.size = 0)) = some false by kernel_rfl)
  go_enter Tryz.func113, Tryz.ntmps113
  go_wp2
  rw [Lib.run_to_unsafe w ⟨b, 0, none⟩ Tryz.underlying103 Tryz.underlying167 hj (by simpa using hjs) hsh (Nat.zero_lt_succ 1)]
  simp only [Result.andThen]
  rw [Oper.upon_value]
  go_wp2
  rw [run_callFunc_extern Tryz.func121 (by kernel_rfl) (by kernel_rfl) (by kernel_rfl) (e := Extern.AbiNoEscape.same) (by kernel_rfl)]
  rw [Lib.run_noEscape]
  simp only [Result.andThen]
  rw [Oper.upon_value]
  go_wp2
  rw [Lib.run_from_unsafe w ⟨b, 0, none⟩ Tryz.underlying167 Tryz.underlying103 hj hsh lies_b]
  simp only [Result.andThen]
  rw [Oper.upon_value]
  go_wp2
  go_end0
  exact ⟨rfl, rfl⟩
theorem st_some (b : Nat) (l : List UInt8) (g cap : Nat) (p : Value) (cur : Array Value) (tb : TypeId) (w : World) (h0 : l ≠ []) (hc1 : w.cell? ⟨b, 1, none⟩ = some (.slice (some ⟨g, 0, none⟩) l.length cap)) (hg : w.heap[g]? = some (.cells cur t_uint8 (0, 0)))
    (hnc : l.length ≤ cap) (hcm : cap ≤ maxLen) (hcs : cur.size = cap * 1) (hown : ∀ (j : Nat) (v : Value), (Lib.byteCells l)[j]? = some v → w.cell? ((⟨g, 0, none⟩ : Addr).add j) = some v) :
    Calls Tryz.prog n_strings_Builder_String #[.pointer (some ⟨b, 0, none⟩)] w fun e w' => e = .returned (.string ⟨l.toArray⟩) ∧ w' = w.drew.freeze ⟨g, 0, none⟩ l.length := by
  have hl0 : l.length ≠ 0 := by simpa using h0
  have c1 : w.drew.cell? ⟨b, 1, none⟩ = some (.slice (some ⟨g, 0, none⟩) l.length cap) := hc1
  have hSD : (Builtin.unsafeSliceData_ #[t_Luint8] t_P_uint8 #[.slice (some ⟨g, 0, none⟩) l.length cap]).run Tryz.prog w.drew = .ok (.pointer (some ⟨g, 0, none⟩)) w.drew :=
    Lib.run_unsafeSliceData_row _ _ _ _ _ _ (by omega)
  have hUS : (Builtin.unsafeString_ #[t_P_uint8, t_int] t_string #[.pointer (some ⟨g, 0, none⟩), .int .i64 l.length]).run Tryz.prog w.drew = .ok (.string ⟨l.toArray⟩) (w.drew.freeze ⟨g, 0, none⟩ l.length) := by
    refine Lib.run_unsafeString_row w.drew t_P_uint8 t_int t_string t_uint8 Tryz.underlying135 (by kernel_rfl) g cur.size (by have hg' : w.drew.heap[g]? = some (.cells cur t_uint8 (0, 0)) := hg; simp [World.shape?, hg']) l h0 (by omega) (by unfold maxLen at hcm; omega) ?_
    intro j x hx
    have := hown j (.int .u8 x.toNat) (by simp [Lib.byteCells, hx])
    exact this
  go_enter Tryz.func81, Tryz.ntmps81
  go_wp2
  go_region
  all_goals (go_wp2; go_ret; exact ⟨rfl, rfl⟩)
end Go.Proofs.YtmjpidjdbofdjaaGreat

