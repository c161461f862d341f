import Derived.Test.YtmjpidjdbofdjaaGreatXq
import Derived.Test.YtmjpidjdbofdjaaGreatPc
/- Contracts: law 18's works. The law ProbeAsks. -/
set_option linter.unusedVariables false
set_option linter.unusedSimpArgs false
set_option maxRecDepth 100000
set_option maxHeartbeats 1600000
namespace Go.Proofs.YtmjpidjdbofdjaaGreat
open Go Go.Sy
def xK : Ent := ⟨⟨#[107]⟩, ⟨3, 0, 0, false, ⟨#[]⟩, [], [], 5⟩⟩
def aK : Ar := ⟨1, [xK], [0]⟩
def bK : Ar := ⟨1, [], []⟩
def FA : Fra := ⟨3, 0, 0, 3005030169, 0, 0, 0, []⟩
def FB : Fra := ⟨3, 0, 0, 0, 0, 0, 0, []⟩
def F4 : Fra := ⟨4, 1, 0, 0, 0, 0, 0, []⟩
def F5 : Fra := ⟨5, 0, 0, 0, 0, 0, 0, [xK]⟩
theorem bd_aK : aK.bd := ⟨fun e he => by simp [aK] at he; subst he; exact ⟨by decide, by decide⟩, by decide, by decide⟩
theorem bd_bK : bK.bd := ⟨fun e he => by simp [bK] at he, by decide, by decide⟩
theorem bd_f (t x l : Int) : Fra.bd ⟨t, x, 0, l, 0, 0, 0, []⟩ := ⟨fun e he => by simp at he, by simp⟩
theorem k_AskA : Fc Tryz.prog n_probe_Ask [aK.sv] FA.sv := by
  have h := c_probe_Ask aK bd_aK
  rwa [show askF aK = FA by decide +kernel] at h
theorem k_AskB : Fc Tryz.prog n_probe_Ask [bK.sv] FB.sv := by
  have h := c_probe_Ask bK bd_bK
  rwa [show askF bK = FB by decide +kernel] at h
theorem k_W1 : Fc Tryz.prog n_probe_Want [bK.sv, FB.sv, iv 4] (.tup [FZ.sv, sb false]) := by
  have h := c_Want bK bd_bK FB (bd_f _ _ _) 4
  rwa [show decide (wantB bK FB 4) = false by decide +kernel, show wantF bK FB 4 = FZ by decide +kernel] at h
theorem k_W2 : Fc Tryz.prog n_probe_Want [bK.sv, FA.sv, iv 4] (.tup [F4.sv, sb true]) := by
  have h := c_Want bK bd_bK FA (bd_f _ _ _) 4
  rwa [show decide (wantB bK FA 4) = true by decide +kernel, show wantF bK FA 4 = F4 by decide +kernel] at h
theorem k_G1 : Fc Tryz.prog n_probe_Give [aK.sv, F4.sv, iv 4] (.tup [F5.sv, sb true]) := by
  have h := c_Give aK bd_aK F4 (bd_f _ _ _) 4
  rwa [show decide (giveB aK F4 4) = true by decide +kernel, show giveF aK F4 4 = F5 by decide +kernel] at h
theorem k_G2 : Fc Tryz.prog n_probe_Give [bK.sv, F4.sv, iv 4] (.tup [FZ.sv, sb false]) := by
  have h := c_Give bK bd_bK F4 (bd_f _ _ _) 4
  rwa [show decide (giveB bK F4 4) = false by decide +kernel, show giveF bK F4 4 = FZ by decide +kernel] at h
theorem k_Bk : Fc Tryz.prog n_digest_Bucket [iv 3, ss ⟨#[107]⟩] (iv 0) := by
  have h := c_digest_Bucket 3 ⟨#[107]⟩ (by decide)
  rwa [show bk 3 ⟨#[107]⟩ = 0 by decide +kernel] at h
def rawK : SV := .agg [iv 1, .lst true 9 [.agg [ss ⟨#[107]⟩, iv 3, iv 0, iv 0, sb false, ss ⟨#[]⟩, .v (.slice none 0 0), .v (.slice none 0 0), .v (.int .u64 5)]], .lst true 1 [iv 0]]
theorem raw_den {β : Gh} {y : Value} (h : Den β rawK y) : Den β aK.sv y := by
  obtain ⟨xs, ⟨y0, z0, d0, ⟨y1, z1, d1, ⟨y2, z2, d2, d3, rfl⟩, rfl⟩, rfl⟩, rfl⟩ := h
  exact ⟨_, ⟨y0, _, d0, ⟨y1, _, lst_den (by repeat' constructor) d1, ⟨y2, _, lst_den (by repeat' constructor) d2, d3, rfl⟩, rfl⟩, rfl⟩, rfl⟩
theorem wA {r r' : List SV} (h : lePL r r') : ∀ β ys, DenL β (rawK :: r) ys → DenL β (aK.sv :: r') ys := fun β ys ⟨y, zs, h1, h2, h3⟩ => ⟨y, zs, raw_den h1, lePL_den _ _ _ h h2, h3⟩
theorem Fc.ent {P : Program} {f : FuncId} {args raw : List SV} {r0 : SV} (h : Fc P f args r0) (e : ∀ β ys, DenL β raw ys → DenL β args ys) : Fc P f raw r0 := fun H => ⟨fun β w xs R hd => (h H).run β w xs R (e β xs hd)⟩
theorem k_AskR : Fc Tryz.prog n_probe_Ask [rawK] FA.sv := Fc.ent k_AskA (wA (by repeat' constructor))
theorem k_G1R : Fc Tryz.prog n_probe_Give [rawK, F4.sv, iv 4] (.tup [F5.sv, sb true]) := Fc.ent k_G1 (wA (by repeat' constructor))
theorem c_works : Fc Tryz.prog n_ouroboroslaw18_works [] (sb true) := by
  refine Fc.of_body tabOk q_ouroboroslaw18_works (by kernel_rfl) (rfl) (rfl) ?_
  conv => whnf
  repeat' (first
    | (refine Cd.parT tabOk (by kernel_rfl) [7, 8] rfl ?_; conv => whnf)
    | (refine bltG (by first | omega | (simp only [List.length_map] at *; omega)) ?_; conv => whnf)
    | (refine ndG (by assumption) ?_; conv => whnf)
    | (refine mulG ?_; conv => whnf)
    | (refine And.intro rfl ?_; conv => whnf)
    | (refine dsT (by assumption) ?_; conv => whnf)
    | (refine dsF (by assumption) ?_; conv => whnf)
    | (refine nsT (by assumption) ?_; conv => whnf)
    | (refine nsF (by assumption) ?_; conv => whnf)
    | (refine bsT (by assumption) ?_; conv => whnf)
    | (refine bsF (by assumption) ?_; conv => whnf)
    | (refine dsp ?_ ?_ <;> intro _ <;> conv => whnf)
    | (refine nsp ?_ ?_ <;> intro _ <;> conv => whnf)
    | (refine cnd_true (by assumption) ?_; conv => whnf)
    | (refine cnd_false (by assumption) ?_; conv => whnf)
    | (refine cnd_split ?_ ?_ <;> intro _ <;> conv => whnf)
    | (refine Cd.par tabOk (by kernel_rfl) (by kernel_rfl) ?_; conv => whnf)
    | (refine Fc.use (k_AskR) ?_ ?_; (focus ((repeat' constructor); done)); conv => whnf)
    | (refine CallQ.of (k_AskR) ?_ ?_; (focus ((repeat' constructor); done)); conv => whnf)
    | (refine Fc.use (k_G1R) ?_ ?_; (focus ((repeat' constructor); done)); conv => whnf)
    | (refine CallQ.of (k_G1R) ?_ ?_; (focus ((repeat' constructor); done)); conv => whnf)
    | (refine Fc.use (k_AskB) ?_ ?_; (focus ((repeat' constructor); done)); conv => whnf)
    | (refine CallQ.of (k_AskB) ?_ ?_; (focus ((repeat' constructor); done)); conv => whnf)
    | (refine Fc.use (k_W1) ?_ ?_; (focus ((repeat' constructor); done)); conv => whnf)
    | (refine CallQ.of (k_W1) ?_ ?_; (focus ((repeat' constructor); done)); conv => whnf)
    | (refine Fc.use (k_W2) ?_ ?_; (focus ((repeat' constructor); done)); conv => whnf)
    | (refine CallQ.of (k_W2) ?_ ?_; (focus ((repeat' constructor); done)); conv => whnf)
    | (refine Fc.use (k_G2) ?_ ?_; (focus ((repeat' constructor); done)); conv => whnf)
    | (refine CallQ.of (k_G2) ?_ ?_; (focus ((repeat' constructor); done)); conv => whnf)
    | (refine Fc.use (k_Bk) ?_ ?_; (focus ((repeat' constructor); done)); conv => whnf)
    | (refine CallQ.of (k_Bk) ?_ ?_; (focus ((repeat' constructor); done)); conv => whnf)
    | rfl
    | exact True.intro
    | (refine And.intro ?_ ?_ <;> conv => whnf))
end Go.Proofs.YtmjpidjdbofdjaaGreat
namespace Go.Proofs.YtmjpidjdbofdjaaGreat
open Go Go.Sy
theorem s8_nn {x : Int} (h : 0 ≤ x) : s8 x = x / 256 := by
  unfold s8
  rw [show (2 : Int) ^ (min 8 64) = 256 from rfl, Int.fdiv_eq_ediv_of_nonneg _ (by omega)]
theorem octOk_of {n : Int} (h0 : 0 ≤ n) (h1 : n < 4294967296) : octOk n := by
  refine ⟨h0, ?_⟩
  have e1 : sh 1 n = n / 256 := s8_nn h0
  have e2 : sh 2 n = n / 256 / 256 := by show s8 (sh 1 n) = _; rw [e1]; exact s8_nn (by omega)
  have e3 : sh 3 n = n / 256 / 256 / 256 := by show s8 (sh 2 n) = _; rw [e2]; exact s8_nn (by omega)
  have e4 : sh 4 n = n / 256 / 256 / 256 / 256 := by show s8 (sh 3 n) = _; rw [e3]; exact s8_nn (by omega)
  rw [e4]; omega
theorem smF_oct (a : Ar) (j : Int) : octOk (smF a j) := octOk_of (smS_bd _ _).1 (smS_bd _ _).2
theorem askF_bd (a : Ar) : (askF a).bd := ⟨fun e he => by simp [askF] at he, by simp [askF]⟩
theorem askF_ok (a : Ar) : frOk (askF a) := by
  refine .inr (.inr (.inl ⟨rfl, ?_⟩))
  exact ⟨⟨smF_oct a 0, smF_oct a 1, smF_oct a 2, smF_oct a 3⟩, Int.le_refl _, Int.le_refl _, Int.le_refl _, Int.le_refl _, rfl, (show (0 : Int) ≤ 8 by decide), fun e he => by simp [askF] at he⟩
theorem dif_self (a b c d : Int) : dif a b c d a b c d = 0 := by simp [dif]
theorem msk_self (a : Ar) : mskF a (askF a) = 0 := dif_self _ _ _ _
theorem c_ProbeAsks (a b : Ar) (chunk : Int) : Fc Tryz.prog n_ouroboroslaw18_ProbeAsks [a.sv, b.sv, iv chunk] (sb true) := by
  have fa := c_law08_Few a
  have fb := c_law08_Few b
  by_cases h1 : arFew a
  case neg =>
    rw [decide_eq_false h1] at fa
    refine Fc.of_body tabOk q_ouroboroslaw18_ProbeAsks (by kernel_rfl) ((blwL_cons (blw_ar 0 a) (blwL_cons (blw_ar 0 b) (blwL_one rfl)))) (rfl) ?_
    conv => whnf
    repeat' (first
      | (refine bltG (by first | omega | (simp only [List.length_map] at *; omega)) ?_; conv => whnf)
      | (refine ndG (by assumption) ?_; conv => whnf)
      | (refine mulG ?_; conv => whnf)
      | (refine And.intro rfl ?_; conv => whnf)
      | (refine dsT (by assumption) ?_; conv => whnf)
      | (refine dsF (by assumption) ?_; conv => whnf)
      | (refine nsT (by assumption) ?_; conv => whnf)
      | (refine nsF (by assumption) ?_; conv => whnf)
      | (refine bsT (by assumption) ?_; conv => whnf)
      | (refine bsF (by assumption) ?_; conv => whnf)
      | (refine dsp ?_ ?_ <;> intro _ <;> conv => whnf)
      | (refine nsp ?_ ?_ <;> intro _ <;> conv => whnf)
      | (refine cnd_true (by assumption) ?_; conv => whnf)
      | (refine cnd_false (by assumption) ?_; conv => whnf)
      | (refine cnd_split ?_ ?_ <;> intro _ <;> conv => whnf)
      | (refine Cd.par tabOk (by kernel_rfl) (by kernel_rfl) ?_; conv => whnf)
      | (refine Fc.use (c_works) ?_ ?_; (focus ((repeat' constructor); done)); conv => whnf)
      | (refine CallQ.of (c_works) ?_ ?_; (focus ((repeat' constructor); done)); conv => whnf)
      | (refine Fc.use (fa) ?_ ?_; (focus ((repeat' constructor); done)); conv => whnf)
      | (refine CallQ.of (fa) ?_ ?_; (focus ((repeat' constructor); done)); conv => whnf))
    all_goals rfl
  by_cases h2 : arFew b
  case neg =>
    rw [decide_eq_true h1] at fa
    rw [decide_eq_false h2] at fb
    refine Fc.of_body tabOk q_ouroboroslaw18_ProbeAsks (by kernel_rfl) ((blwL_cons (blw_ar 0 a) (blwL_cons (blw_ar 0 b) (blwL_one rfl)))) (rfl) ?_
    conv => whnf
    repeat' (first
      | (refine bltG (by first | omega | (simp only [List.length_map] at *; omega)) ?_; conv => whnf)
      | (refine ndG (by assumption) ?_; conv => whnf)
      | (refine mulG ?_; conv => whnf)
      | (refine And.intro rfl ?_; conv => whnf)
      | (refine dsT (by assumption) ?_; conv => whnf)
      | (refine dsF (by assumption) ?_; conv => whnf)
      | (refine nsT (by assumption) ?_; conv => whnf)
      | (refine nsF (by assumption) ?_; conv => whnf)
      | (refine bsT (by assumption) ?_; conv => whnf)
      | (refine bsF (by assumption) ?_; conv => whnf)
      | (refine dsp ?_ ?_ <;> intro _ <;> conv => whnf)
      | (refine nsp ?_ ?_ <;> intro _ <;> conv => whnf)
      | (refine cnd_true (by assumption) ?_; conv => whnf)
      | (refine cnd_false (by assumption) ?_; conv => whnf)
      | (refine cnd_split ?_ ?_ <;> intro _ <;> conv => whnf)
      | (refine Cd.par tabOk (by kernel_rfl) (by kernel_rfl) ?_; conv => whnf)
      | (refine Fc.use (c_works) ?_ ?_; (focus ((repeat' constructor); done)); conv => whnf)
      | (refine CallQ.of (c_works) ?_ ?_; (focus ((repeat' constructor); done)); conv => whnf)
      | (refine Fc.use (fa) ?_ ?_; (focus ((repeat' constructor); done)); conv => whnf)
      | (refine CallQ.of (fa) ?_ ?_; (focus ((repeat' constructor); done)); conv => whnf)
      | (refine Fc.use (fb) ?_ ?_; (focus ((repeat' constructor); done)); conv => whnf)
      | (refine CallQ.of (fb) ?_ ?_; (focus ((repeat' constructor); done)); conv => whnf))
    all_goals rfl
  rw [decide_eq_true h1] at fa
  rw [decide_eq_true h2] at fb
  have ha := h1.bd
  have hb := h2.bd
  have ka := c_probe_Ask a ha
  have kb := c_probe_Ask b hb
  have kw := c_Want a ha (askF a) (askF_bd a) chunk
  have hw : ¬ wantB a (askF a) chunk := fun h => h.2 (msk_self a)
  rw [decide_eq_false hw] at kw
  have kc := c_frame_Check (askF a) (askF_bd a)
  unfold en at kc
  rw [if_pos (askF_ok a)] at kc
  have kl := c_Alike a b ha hb
  have ks := c_frame_Same (askF a) (askF b) (askF_bd a)
  have hs : alikeB a b → askF a = askF b := alike_ask
  generalize wantF a (askF a) chunk = wf at kw
  generalize askF a = FAa at *
  generalize askF b = FBb at *
  by_cases hl : alikeB a b
  · rw [decide_eq_true hl] at kl
    rw [decide_eq_true (hs hl)] at ks
    refine Fc.of_body tabOk q_ouroboroslaw18_ProbeAsks (by kernel_rfl) ((blwL_cons (blw_ar 0 a) (blwL_cons (blw_ar 0 b) (blwL_one rfl)))) (rfl) ?_
    conv => whnf
    repeat' (first
      | (refine bltG (by first | omega | (simp only [List.length_map] at *; omega)) ?_; conv => whnf)
      | (refine ndG (by assumption) ?_; conv => whnf)
      | (refine mulG ?_; conv => whnf)
      | (refine And.intro rfl ?_; conv => whnf)
      | (refine dsT (by assumption) ?_; conv => whnf)
      | (refine dsF (by assumption) ?_; conv => whnf)
      | (refine nsT (by assumption) ?_; conv => whnf)
      | (refine nsF (by assumption) ?_; conv => whnf)
      | (refine bsT (by assumption) ?_; conv => whnf)
      | (refine bsF (by assumption) ?_; conv => whnf)
      | (refine dsp ?_ ?_ <;> intro _ <;> conv => whnf)
      | (refine nsp ?_ ?_ <;> intro _ <;> conv => whnf)
      | (refine cnd_true (by assumption) ?_; conv => whnf)
      | (refine cnd_false (by assumption) ?_; conv => whnf)
      | (refine cnd_split ?_ ?_ <;> intro _ <;> conv => whnf)
      | (refine Cd.par tabOk (by kernel_rfl) (by kernel_rfl) ?_; conv => whnf)
      | (refine Fc.use (c_works) ?_ ?_; (focus ((repeat' constructor); done)); conv => whnf)
      | (refine CallQ.of (c_works) ?_ ?_; (focus ((repeat' constructor); done)); conv => whnf)
      | (refine Fc.use (fa) ?_ ?_; (focus ((repeat' constructor); done)); conv => whnf)
      | (refine CallQ.of (fa) ?_ ?_; (focus ((repeat' constructor); done)); conv => whnf)
      | (refine Fc.use (fb) ?_ ?_; (focus ((repeat' constructor); done)); conv => whnf)
      | (refine CallQ.of (fb) ?_ ?_; (focus ((repeat' constructor); done)); conv => whnf)
      | (refine Fc.use (ka) ?_ ?_; (focus ((repeat' constructor); done)); conv => whnf)
      | (refine CallQ.of (ka) ?_ ?_; (focus ((repeat' constructor); done)); conv => whnf)
      | (refine Fc.use (kb) ?_ ?_; (focus ((repeat' constructor); done)); conv => whnf)
      | (refine CallQ.of (kb) ?_ ?_; (focus ((repeat' constructor); done)); conv => whnf)
      | (refine Fc.use (kw) ?_ ?_; (focus ((repeat' constructor); done)); conv => whnf)
      | (refine CallQ.of (kw) ?_ ?_; (focus ((repeat' constructor); done)); conv => whnf)
      | (refine Fc.use (kc) ?_ ?_; (focus ((repeat' constructor); done)); conv => whnf)
      | (refine CallQ.of (kc) ?_ ?_; (focus ((repeat' constructor); done)); conv => whnf)
      | (refine Fc.use (kl) ?_ ?_; (focus ((repeat' constructor); done)); conv => whnf)
      | (refine CallQ.of (kl) ?_ ?_; (focus ((repeat' constructor); done)); conv => whnf)
      | (refine Fc.use (ks) ?_ ?_; (focus ((repeat' constructor); done)); conv => whnf)
      | (refine CallQ.of (ks) ?_ ?_; (focus ((repeat' constructor); done)); conv => whnf))
    all_goals rfl
  · rw [decide_eq_false hl] at kl
    refine Fc.of_body tabOk q_ouroboroslaw18_ProbeAsks (by kernel_rfl) ((blwL_cons (blw_ar 0 a) (blwL_cons (blw_ar 0 b) (blwL_one rfl)))) (rfl) ?_
    conv => whnf
    repeat' (first
      | (refine bltG (by first | omega | (simp only [List.length_map] at *; omega)) ?_; conv => whnf)
      | (refine ndG (by assumption) ?_; conv => whnf)
      | (refine mulG ?_; conv => whnf)
      | (refine And.intro rfl ?_; conv => whnf)
      | (refine dsT (by assumption) ?_; conv => whnf)
      | (refine dsF (by assumption) ?_; conv => whnf)
      | (refine nsT (by assumption) ?_; conv => whnf)
      | (refine nsF (by assumption) ?_; conv => whnf)
      | (refine bsT (by assumption) ?_; conv => whnf)
      | (refine bsF (by assumption) ?_; conv => whnf)
      | (refine dsp ?_ ?_ <;> intro _ <;> conv => whnf)
      | (refine nsp ?_ ?_ <;> intro _ <;> conv => whnf)
      | (refine cnd_true (by assumption) ?_; conv => whnf)
      | (refine cnd_false (by assumption) ?_; conv => whnf)
      | (refine cnd_split ?_ ?_ <;> intro _ <;> conv => whnf)
      | (refine Cd.par tabOk (by kernel_rfl) (by kernel_rfl) ?_; conv => whnf)
      | (refine Fc.use (c_works) ?_ ?_; (focus ((repeat' constructor); done)); conv => whnf)
      | (refine CallQ.of (c_works) ?_ ?_; (focus ((repeat' constructor); done)); conv => whnf)
      | (refine Fc.use (fa) ?_ ?_; (focus ((repeat' constructor); done)); conv => whnf)
      | (refine CallQ.of (fa) ?_ ?_; (focus ((repeat' constructor); done)); conv => whnf)
      | (refine Fc.use (fb) ?_ ?_; (focus ((repeat' constructor); done)); conv => whnf)
      | (refine CallQ.of (fb) ?_ ?_; (focus ((repeat' constructor); done)); conv => whnf)
      | (refine Fc.use (ka) ?_ ?_; (focus ((repeat' constructor); done)); conv => whnf)
      | (refine CallQ.of (ka) ?_ ?_; (focus ((repeat' constructor); done)); conv => whnf)
      | (refine Fc.use (kb) ?_ ?_; (focus ((repeat' constructor); done)); conv => whnf)
      | (refine CallQ.of (kb) ?_ ?_; (focus ((repeat' constructor); done)); conv => whnf)
      | (refine Fc.use (kw) ?_ ?_; (focus ((repeat' constructor); done)); conv => whnf)
      | (refine CallQ.of (kw) ?_ ?_; (focus ((repeat' constructor); done)); conv => whnf)
      | (refine Fc.use (kc) ?_ ?_; (focus ((repeat' constructor); done)); conv => whnf)
      | (refine CallQ.of (kc) ?_ ?_; (focus ((repeat' constructor); done)); conv => whnf)
      | (refine Fc.use (kl) ?_ ?_; (focus ((repeat' constructor); done)); conv => whnf)
      | (refine CallQ.of (kl) ?_ ?_; (focus ((repeat' constructor); done)); conv => whnf)
      | (refine Fc.use (ks) ?_ ?_; (focus ((repeat' constructor); done)); conv => whnf)
      | (refine CallQ.of (ks) ?_ ?_; (focus ((repeat' constructor); done)); conv => whnf))
    all_goals rfl
end Go.Proofs.YtmjpidjdbofdjaaGreat

