/-
  The card of the law WalkGoes: it holds for every input.
-/
import Derived.Test.YtcmingndbhldgaaDoorWg3
import Derived.Test.YtcmingndbhldgaaDoorWg2
import Derived.Test.YtcmingndbhldgaaDoorRows
import Derived.PinnedBridge
import Derived.Lay
import Derived.LaidHandle
import Derived.LaidLaws
import Derived.ProofKit
import Derived.OpenShut
import Derived.Deep.DeepHandedRow
import Derived.SevenTiedAt
import Derived.Test.YtcmingndbhldgaaDoorWg1
import Derived.Test.YtcmingndbhldgaaDoorCards
import Derived.Test.YtcmingndbhldgaaDoorTie
/-
  Tell: an error as it is told.
-/
namespace Go.Proofs.YtcmingndbhldgaaDoor
open Go.RowKit
set_option maxRecDepth 100000
set_option linter.unusedVariables false
set_option linter.unusedSimpArgs false
attribute [local irreducible] awp aops aop aput aseq ablock TriX Tri Ret Fresh dq adraw dtail dals dfin Wk
attribute [local simp] ErT.d

@[local simp] theorem none_code : ErT.none.code = 0 := rfl
@[local simp] theorem none_at : ErT.none.at_ = -1 := rfl
@[local simp] theorem none_path : ErT.none.path = ByteArray.empty := rfl
def erDep : Nat → D → Nat
  | 0, _ => 0
  | n + 1, .iface _ (.ptr [_, _, d]) => erDep n d + 1
  | _ + 1, _ => 0
theorem erDep_d : ∀ (n : Nat) (e : Er), e.depth ≤ n → erDep n e.d = e.depth
  | 0, .code c, _ => rfl
  | 0, .fault a f e, h => by rw [Er.depth] at h; omega
  | n + 1, .code c, _ => rfl
  | n + 1, .fault a f e, h => by
    rw [Er.depth] at h ⊢
    rw [Er.d, erDep, erDep_d n e (by omega)]
theorem awp_nm5 {P : Program} {n : Nat} {c : Code} {K : AEx → Fr → St → Prop} {F : Fr} {σ : St} {b2 b3 b4 b5 : Nat} {x2 x3 x4 y3 x5 : Option Own}
    (h : ∀ c2 c3 c4 c5, c2 = b2 → c3 = b3 → c4 = b4 → c5 = b5 → awp P n c K F (((((σ.set c2 x2).set c3 x3).set c4 x4).set c3 y3).set c5 x5)) : awp P n c K F (((((σ.set b2 x2).set b3 x3).set b4 x4).set b3 y3).set b5 x5) := h _ _ _ _ rfl rfl rfl rfl
theorem tellNilT (σ : St) : Tri Tryd.prog 8 [.v .nilIface] σ fun d τ => d = .agg (told none).d ∧ τ = σ := by
  refine tri_fn Tryd.func8 rfl Tryd.ntmps8 Tryd.results8 (Nat.le_of_ble_eq_true rfl) ?_
  refine' wlk1 noneT
  ((try simp [*]); (try simp (discharger := omega) only [wrap_i64, dec_t, dec_f]))
  exact .mk _ σ (.refl _) leT ⟨rfl, rfl⟩
theorem tell_size (e : Er) (a : Int) (p : ByteArray) : p.size ≤ (e.tell a p).2.size := by
  rw [Er.tell_path, ByteArray.size_append]
  omega
set_option maxHeartbeats 8000000 in
theorem tellT (e : Er) (σ : St) (hb : (e.tell (-1) ByteArray.empty).2.size ≤ 9223372036854775807) : Tri Tryd.prog 8 [e.d] σ fun d τ => d = .agg (told (some e)).d ∧ τ = σ := by
  obtain ⟨ty, y, hd⟩ := e.d_iface'
  have AC := Lib.hid (fun b σ h => asCodeT e b (.i 0) σ h)
  have HB := Lib.hid hb
  have HD := Lib.hid hd
  rw [hd] at AC ⊢
  obtain ⟨inn, hin⟩ : ∃ inn, inn = e.inner := ⟨_, rfl⟩
  rw [← hin] at AC
  have HIN := Lib.hid hin
  clear hb hd hin
  refine tri_fn Tryd.func8 rfl Tryd.ntmps8 Tryd.results8 (Nat.le_of_ble_eq_true rfl) ?_
  repeat (first | ((first | refine aops_cons (fun K9 hO => ?_) | (refine aops_guardT rfl ?_ (fun K9 hO => ?_); (focus (simp [*]; done)))); simp [*]; (try simp (discharger := omega) only [wrap_i64, dec_t, dec_f]); (first | ((try (first | refine .inl ⟨by omega, by omega, ?_⟩ | refine ⟨by omega, by omega, ?_⟩ | refine ⟨by omega, ?_⟩ | refine .inl ?_)); (first | (intro b; intros; (try have hneA := ne_own (b := b) hown1 (by assumption)); (try have hneB := ne_own (b := b) hown2 (by assumption)); (try have hneC := ne_own (b := b) hown3 (by assumption)); refine hO.out _ _ ?_) | refine hO.out _ _ ?_)) | ((first | refine Tri.call (noneT _) ?_ | refine Tri.call (AC.out _ _ (by simp [*])) ?_); (first | rintro _ _ ⟨rfl, h9⟩; replace h9 := h9.symm; subst h9 | rintro _ _ ⟨_, rfl, rfl⟩ | rintro _ _ ⟨_, _, rfl, rfl⟩ | rintro _ _ ⟨_, _, _, rfl, rfl⟩ | rintro _ τ9 ⟨rfl, h9⟩ | rintro _ τ9 ⟨x9, rfl, h9⟩ | rintro _ τ9 ⟨x9, y9, rfl, h9⟩); refine hO.out _ _ ?_)); clear hO; (try clear K9); (first | refine aput_some (by decide) ?_ | refine aput_none ?_)) | refine aops_nil ?_ | refine aseq_normal ?_ | refine aseq_ret ?_ | refine aseq_exit ?_ | refine ablock_normal ?_ | refine ablock_ret ?_ | refine ablock_same ?_ | refine ablock_other (by decide) ?_ | ((repeat ((fail_if_success (refine hK.out _ _ ?_)); clear hK; (try clear hP EG); (try clear KS))); refine hK.out _ _ ?_; clear hK; (try clear hP EG); try clear KS) | refine awp_seq (fun KS hK => ?_) | refine awp_region (fun KS EG hK hP => ?_) | refine awp_block ?_ | refine awp_skip ?_ | refine awp_ret ?_ | refine awp_exit ?_ | (refine awp_condT ?_ ?_; (focus (simp [*]; done))) | (refine awp_condF ?_ ?_; (focus (simp [*]; done))) | ((first | (refine aops_guardF rfl ?_ ?_; (focus (simp [*]; done))) | (refine aops_guardU rfl ?_ ?_; (focus (simp [*]; done)))); (first | refine aput_some (by decide) ?_ | refine aput_none ?_)))
  refine awp_nm5 ?_
  intro b2 b3 b4 b5 e2 e3 e4 e5
  subst e2 e3 e4 e5
  rw [set_over _ _ _ _ (by assumption)]
  obtain ⟨σ1, hσ1⟩ : ∃ σ1, σ1 = (σ.set b2 (some (.box 37 [.i 0, .i 0, .s ByteArray.empty]))).set b4 (some (.box 68 [.i inn])) := ⟨_, rfl⟩
  have hown1 : σ1.own b2 = some (.box 37 [.i 0, .i 0, .s ByteArray.empty]) := by rw [hσ1]; simp [*]
  have hf3 : Fresh σ1 b3 := by rw [hσ1]; simp [*]
  have hf5 : Fresh σ1 b5 := by rw [hσ1]; simp [*]
  have HLE := Lib.hid (show σ.le σ1 from hσ1 ▸ St.le_set (St.le_set (St.le_refl _) (by assumption)) (by assumption))
  rw [← hσ1]
  clear hσ1
  obtain ⟨N, hN⟩ : ∃ N, N = e.depth := ⟨_, rfl⟩
  have HN := Lib.hid hN
  clear hN
  refine awp_loopM [0, 16, 17, 18, 19, 20, 21, 22, 23, 24, 25, 26, 27, 28, 29, 30, 31, 32, 33, 34, 35, 36, 37, 38, 39, 40, 41, 42, 43, 44, 45, 46, 47, 48, 49, 50, 51, 52, 53, 54, 55, 56, 57, 58, 59, 60, 61, 62, 63, 64, 65, 66] (fun X τ => ∃ (e' : Er) (a : Int) (p : ByteArray) (dP : D), X 0 = e'.d ∧ Hid (e'.tell a p = e.tell (-1) ByteArray.empty ∧ e'.depth ≤ N) ∧ τ = (σ1.set b3 (some (.box 37 [.i inn, .i a, .s p]))).set b5 (some (.box 67 [dP]))) (fun X _ => erDep N (X 0)) ?_ ?_
  · refine .same ⟨mix_self _ _, e, -1, ByteArray.empty, .v (.pointer none), ?_, Lib.hid ⟨rfl, by rw [HN.out]; exact Nat.le_refl _⟩, rfl⟩
    rw [HD.out]
    simp [*]
  · rintro X τ ⟨e', a, p, dP, h0, hf, rfl⟩ _ hL
    cases e' with
    | code c =>
      have AM := Lib.hid (fun b σ h => asMissT c b dP σ h)
      have HR := Lib.hid (show told (some e) = ⟨inn, a, p⟩ by
        have := hf.out.1
        rw [Er.tell] at this
        rw [told, ← this, HIN.out])
      rw [Er.d] at h0 AM
      repeat (first | ((first | refine aops_cons (fun K9 hO => ?_) | (refine aops_guardT rfl ?_ (fun K9 hO => ?_); (focus (simp [*]; done)))); simp [*]; (try simp (discharger := omega) only [wrap_i64, dec_t, dec_f]); (first | ((try (first | refine .inl ⟨by omega, by omega, ?_⟩ | refine ⟨by omega, by omega, ?_⟩ | refine ⟨by omega, ?_⟩ | refine .inl ?_)); (first | (intro b; intros; (try have hneA := ne_own (b := b) hown1 (by assumption)); (try have hneB := ne_own (b := b) hown2 (by assumption)); (try have hneC := ne_own (b := b) hown3 (by assumption)); refine hO.out _ _ ?_) | refine hO.out _ _ ?_)) | ((first | refine Tri.call (AM.out _ _ (by simp [*])) ?_); (first | rintro _ _ ⟨rfl, h9⟩; replace h9 := h9.symm; subst h9 | rintro _ _ ⟨_, rfl, rfl⟩ | rintro _ _ ⟨_, _, rfl, rfl⟩ | rintro _ _ ⟨_, _, _, rfl, rfl⟩ | rintro _ τ9 ⟨rfl, h9⟩ | rintro _ τ9 ⟨x9, rfl, h9⟩ | rintro _ τ9 ⟨x9, y9, rfl, h9⟩); refine hO.out _ _ ?_)); clear hO; (try clear K9); (first | refine aput_some (by decide) ?_ | refine aput_none ?_)) | refine aops_nil ?_ | refine aseq_normal ?_ | refine aseq_ret ?_ | refine aseq_exit ?_ | refine ablock_normal ?_ | refine ablock_ret ?_ | refine ablock_same ?_ | refine ablock_other (by decide) ?_ | ((repeat ((fail_if_success (refine hK.out _ _ ?_)); clear hK; (try clear hP EG); (try clear KS))); refine hK.out _ _ ?_; clear hK; (try clear hP EG); try clear KS) | refine awp_seq (fun KS hK => ?_) | refine awp_region (fun KS EG hK hP => ?_) | refine awp_block ?_ | refine awp_skip ?_ | refine awp_ret ?_ | refine awp_exit ?_ | (refine awp_condT ?_ ?_; (focus (simp [*]; done))) | (refine awp_condF ?_ ?_; (focus (simp [*]; done))) | ((first | (refine aops_guardF rfl ?_ ?_; (focus (simp [*]; done))) | (refine aops_guardU rfl ?_ ?_; (focus (simp [*]; done)))); (first | refine aput_some (by decide) ?_ | refine aput_none ?_)))
      ((try simp [*]); (try simp (discharger := omega) only [wrap_i64, dec_t, dec_f]))
      exact .mk _ σ (.refl _) leT ⟨by rw [HR.out]; try rfl, rfl⟩
    | fault fa f e1 =>
      have AF := Lib.hid (fun b σ h => asFaultT fa f e1 b dP σ h)
      have hd1 : erDep N (.iface 67 (.ptr [.i fa, .s f, e1.d])) = e1.depth + 1 := erDep_d N (.fault fa f e1) hf.out.2
      have hd2 := erDep_d N e1 (by have := hf.out.2; rw [Er.depth] at this; omega)
      have HDD := Lib.hid (And.intro hd1 hd2)
      clear hd1 hd2
      have hsz : (e1.tell (if 0 ≤ fa ∧ a < 0 then fa else a) (if ¬ f = ⟨#[]⟩ ∨ fa < 0 then p ++ (ByteArray.mk #[47] ++ f) else p)) = e.tell (-1) ByteArray.empty := hf.out.1
      have HSZ := Lib.hid hsz
      clear hsz
      rw [Er.d] at h0 AF
      by_cases c1 : 0 ≤ fa
      · by_cases c2 : a < 0
        · by_cases c3 : f = ⟨#[]⟩
          · subst c3
            have hs2 := HSZ.out
            rw [show (if 0 ≤ fa ∧ a < 0 then fa else a) = fa from if_pos ⟨c1, c2⟩, if_neg (by rintro (h | h); exact h rfl; omega)] at hs2
            have HS := Lib.hid hs2
            clear hs2
            repeat (first | ((first | refine aops_cons (fun K9 hO => ?_) | (refine aops_guardT rfl ?_ (fun K9 hO => ?_); (focus (simp [*]; done)))); simp [*]; (try simp (discharger := omega) only [wrap_i64, dec_t, dec_f]); (first | ((try (first | refine .inl ⟨by omega, by omega, ?_⟩ | refine ⟨by omega, by omega, ?_⟩ | refine ⟨by omega, ?_⟩ | refine .inl ?_)); (first | (intro b; intros; (try have hneA := ne_own (b := b) hown1 (by assumption)); (try have hneB := ne_own (b := b) hown2 (by assumption)); (try have hneC := ne_own (b := b) hown3 (by assumption)); refine hO.out _ _ ?_) | refine hO.out _ _ ?_)) | ((first | refine Tri.call (AF.out _ _ (by simp [*])) ?_); (first | rintro _ _ ⟨rfl, h9⟩; replace h9 := h9.symm; subst h9 | rintro _ _ ⟨_, rfl, rfl⟩ | rintro _ _ ⟨_, _, rfl, rfl⟩ | rintro _ _ ⟨_, _, _, rfl, rfl⟩ | rintro _ τ9 ⟨rfl, h9⟩ | rintro _ τ9 ⟨x9, rfl, h9⟩ | rintro _ τ9 ⟨x9, y9, rfl, h9⟩); refine hO.out _ _ ?_)); clear hO; (try clear K9); (first | refine aput_some (by decide) ?_ | refine aput_none ?_)) | refine aops_nil ?_ | refine aseq_normal ?_ | refine aseq_ret ?_ | refine aseq_exit ?_ | refine ablock_normal ?_ | refine ablock_ret ?_ | refine ablock_same ?_ | refine ablock_other (by decide) ?_ | ((repeat ((fail_if_success (refine hK.out _ _ ?_)); clear hK; (try clear hP EG); (try clear KS))); refine hK.out _ _ ?_; clear hK; (try clear hP EG); try clear KS) | refine awp_seq (fun KS hK => ?_) | refine awp_region (fun KS EG hK hP => ?_) | refine awp_block ?_ | refine awp_skip ?_ | refine awp_ret ?_ | refine awp_exit ?_ | (refine awp_condT ?_ ?_; (focus (simp [*]; done))) | (refine awp_condF ?_ ?_; (focus (simp [*]; done))) | ((first | (refine aops_guardF rfl ?_ ?_; (focus (simp [*]; done))) | (refine aops_guardU rfl ?_ ?_; (focus (simp [*]; done)))); (first | refine aput_some (by decide) ?_ | refine aput_none ?_)))
            refine hL.out _ _ (.less ((σ1.set b3 _).set b5 _) (by first | exact St.le_refl _ | (rw [set_over _ _ _ _ (by assumption), set_comm σ1 (show b5 ≠ b3 by assumption)]; exact St.le_refl _)) (.same ⟨mixT, ⟨e1, fa, p, _, ?_, Lib.hid ⟨HS.out, by have := hf.out.2; rw [Er.depth] at this; omega⟩, rfl⟩, ?_⟩))
            · simp [*]
            · have hm1 := HDD.out.1
              have hm2 := HDD.out.2
              simp [*]
          · have hs2 := HSZ.out
            rw [show (if 0 ≤ fa ∧ a < 0 then fa else a) = fa from if_pos ⟨c1, c2⟩, if_pos (.inl c3)] at hs2
            have HS := Lib.hid hs2
            have hl := tell_size e1 fa (p ++ (ByteArray.mk #[47] ++ f))
            rw [hs2] at hl
            have hl2 := Nat.le_trans hl HB.out
            have e47 : (ByteArray.mk #[47]).size = 1 := rfl
            rw [ByteArray.size_append, ByteArray.size_append, e47] at hl2
            clear hs2 hl
            repeat (first | ((first | refine aops_cons (fun K9 hO => ?_) | (refine aops_guardT rfl ?_ (fun K9 hO => ?_); (focus (simp [*]; done)))); simp [*]; (try simp (discharger := omega) only [wrap_i64, dec_t, dec_f]); (first | ((try (first | refine .inl ⟨by omega, by omega, ?_⟩ | refine ⟨by omega, by omega, ?_⟩ | refine ⟨by omega, ?_⟩ | refine .inl ?_)); (first | (intro b; intros; (try have hneA := ne_own (b := b) hown1 (by assumption)); (try have hneB := ne_own (b := b) hown2 (by assumption)); (try have hneC := ne_own (b := b) hown3 (by assumption)); refine hO.out _ _ ?_) | refine hO.out _ _ ?_)) | ((first | refine Tri.call (AF.out _ _ (by simp [*])) ?_); (first | rintro _ _ ⟨rfl, h9⟩; replace h9 := h9.symm; subst h9 | rintro _ _ ⟨_, rfl, rfl⟩ | rintro _ _ ⟨_, _, rfl, rfl⟩ | rintro _ _ ⟨_, _, _, rfl, rfl⟩ | rintro _ τ9 ⟨rfl, h9⟩ | rintro _ τ9 ⟨x9, rfl, h9⟩ | rintro _ τ9 ⟨x9, y9, rfl, h9⟩); refine hO.out _ _ ?_)); clear hO; (try clear K9); (first | refine aput_some (by decide) ?_ | refine aput_none ?_)) | refine aops_nil ?_ | refine aseq_normal ?_ | refine aseq_ret ?_ | refine aseq_exit ?_ | refine ablock_normal ?_ | refine ablock_ret ?_ | refine ablock_same ?_ | refine ablock_other (by decide) ?_ | ((repeat ((fail_if_success (refine hK.out _ _ ?_)); clear hK; (try clear hP EG); (try clear KS))); refine hK.out _ _ ?_; clear hK; (try clear hP EG); try clear KS) | refine awp_seq (fun KS hK => ?_) | refine awp_region (fun KS EG hK hP => ?_) | refine awp_block ?_ | refine awp_skip ?_ | refine awp_ret ?_ | refine awp_exit ?_ | (refine awp_condT ?_ ?_; (focus (simp [*]; done))) | (refine awp_condF ?_ ?_; (focus (simp [*]; done))) | ((first | (refine aops_guardF rfl ?_ ?_; (focus (simp [*]; done))) | (refine aops_guardU rfl ?_ ?_; (focus (simp [*]; done)))); (first | refine aput_some (by decide) ?_ | refine aput_none ?_)))
            (refine awp_draw (fun KS EG hK hP => ?_); refine draw_rule rfl [(0, true), (1, false), (2, false), (3, true), (4, true), (5, false), (6, true), (7, true), (8, true)] [] [9] (by kernel_rfl) ?_; refine' dqs0)
            refine' wlk0
            refine hL.out _ _ (.less ((σ1.set b3 _).set b5 _) (by first | exact St.le_refl _ | (rw [set_over _ _ _ _ (by assumption), set_comm σ1 (show b5 ≠ b3 by assumption)]; exact St.le_refl _)) (.same ⟨mixT, ⟨e1, fa, _, _, ?_, Lib.hid ⟨HS.out, by have := hf.out.2; rw [Er.depth] at this; omega⟩, rfl⟩, ?_⟩))
            · simp [*]
            · have hm1 := HDD.out.1
              have hm2 := HDD.out.2
              simp [*]
        · by_cases c3 : f = ⟨#[]⟩
          · subst c3
            have hs2 := HSZ.out
            rw [show (if 0 ≤ fa ∧ a < 0 then fa else a) = a from if_neg (by omega), if_neg (by rintro (h | h); exact h rfl; omega)] at hs2
            have HS := Lib.hid hs2
            clear hs2
            repeat (first | ((first | refine aops_cons (fun K9 hO => ?_) | (refine aops_guardT rfl ?_ (fun K9 hO => ?_); (focus (simp [*]; done)))); simp [*]; (try simp (discharger := omega) only [wrap_i64, dec_t, dec_f]); (first | ((try (first | refine .inl ⟨by omega, by omega, ?_⟩ | refine ⟨by omega, by omega, ?_⟩ | refine ⟨by omega, ?_⟩ | refine .inl ?_)); (first | (intro b; intros; (try have hneA := ne_own (b := b) hown1 (by assumption)); (try have hneB := ne_own (b := b) hown2 (by assumption)); (try have hneC := ne_own (b := b) hown3 (by assumption)); refine hO.out _ _ ?_) | refine hO.out _ _ ?_)) | ((first | refine Tri.call (AF.out _ _ (by simp [*])) ?_); (first | rintro _ _ ⟨rfl, h9⟩; replace h9 := h9.symm; subst h9 | rintro _ _ ⟨_, rfl, rfl⟩ | rintro _ _ ⟨_, _, rfl, rfl⟩ | rintro _ _ ⟨_, _, _, rfl, rfl⟩ | rintro _ τ9 ⟨rfl, h9⟩ | rintro _ τ9 ⟨x9, rfl, h9⟩ | rintro _ τ9 ⟨x9, y9, rfl, h9⟩); refine hO.out _ _ ?_)); clear hO; (try clear K9); (first | refine aput_some (by decide) ?_ | refine aput_none ?_)) | refine aops_nil ?_ | refine aseq_normal ?_ | refine aseq_ret ?_ | refine aseq_exit ?_ | refine ablock_normal ?_ | refine ablock_ret ?_ | refine ablock_same ?_ | refine ablock_other (by decide) ?_ | ((repeat ((fail_if_success (refine hK.out _ _ ?_)); clear hK; (try clear hP EG); (try clear KS))); refine hK.out _ _ ?_; clear hK; (try clear hP EG); try clear KS) | refine awp_seq (fun KS hK => ?_) | refine awp_region (fun KS EG hK hP => ?_) | refine awp_block ?_ | refine awp_skip ?_ | refine awp_ret ?_ | refine awp_exit ?_ | (refine awp_condT ?_ ?_; (focus (simp [*]; done))) | (refine awp_condF ?_ ?_; (focus (simp [*]; done))) | ((first | (refine aops_guardF rfl ?_ ?_; (focus (simp [*]; done))) | (refine aops_guardU rfl ?_ ?_; (focus (simp [*]; done)))); (first | refine aput_some (by decide) ?_ | refine aput_none ?_)))
            refine hL.out _ _ (.less ((σ1.set b3 _).set b5 _) (by first | exact St.le_refl _ | (rw [set_over _ _ _ _ (by assumption), set_comm σ1 (show b5 ≠ b3 by assumption)]; exact St.le_refl _)) (.same ⟨mixT, ⟨e1, a, p, _, ?_, Lib.hid ⟨HS.out, by have := hf.out.2; rw [Er.depth] at this; omega⟩, rfl⟩, ?_⟩))
            · simp [*]
            · have hm1 := HDD.out.1
              have hm2 := HDD.out.2
              simp [*]
          · have hs2 := HSZ.out
            rw [show (if 0 ≤ fa ∧ a < 0 then fa else a) = a from if_neg (by omega), if_pos (.inl c3)] at hs2
            have HS := Lib.hid hs2
            have hl := tell_size e1 a (p ++ (ByteArray.mk #[47] ++ f))
            rw [hs2] at hl
            have hl2 := Nat.le_trans hl HB.out
            have e47 : (ByteArray.mk #[47]).size = 1 := rfl
            rw [ByteArray.size_append, ByteArray.size_append, e47] at hl2
            clear hs2 hl
            repeat (first | ((first | refine aops_cons (fun K9 hO => ?_) | (refine aops_guardT rfl ?_ (fun K9 hO => ?_); (focus (simp [*]; done)))); simp [*]; (try simp (discharger := omega) only [wrap_i64, dec_t, dec_f]); (first | ((try (first | refine .inl ⟨by omega, by omega, ?_⟩ | refine ⟨by omega, by omega, ?_⟩ | refine ⟨by omega, ?_⟩ | refine .inl ?_)); (first | (intro b; intros; (try have hneA := ne_own (b := b) hown1 (by assumption)); (try have hneB := ne_own (b := b) hown2 (by assumption)); (try have hneC := ne_own (b := b) hown3 (by assumption)); refine hO.out _ _ ?_) | refine hO.out _ _ ?_)) | ((first | refine Tri.call (AF.out _ _ (by simp [*])) ?_); (first | rintro _ _ ⟨rfl, h9⟩; replace h9 := h9.symm; subst h9 | rintro _ _ ⟨_, rfl, rfl⟩ | rintro _ _ ⟨_, _, rfl, rfl⟩ | rintro _ _ ⟨_, _, _, rfl, rfl⟩ | rintro _ τ9 ⟨rfl, h9⟩ | rintro _ τ9 ⟨x9, rfl, h9⟩ | rintro _ τ9 ⟨x9, y9, rfl, h9⟩); refine hO.out _ _ ?_)); clear hO; (try clear K9); (first | refine aput_some (by decide) ?_ | refine aput_none ?_)) | refine aops_nil ?_ | refine aseq_normal ?_ | refine aseq_ret ?_ | refine aseq_exit ?_ | refine ablock_normal ?_ | refine ablock_ret ?_ | refine ablock_same ?_ | refine ablock_other (by decide) ?_ | ((repeat ((fail_if_success (refine hK.out _ _ ?_)); clear hK; (try clear hP EG); (try clear KS))); refine hK.out _ _ ?_; clear hK; (try clear hP EG); try clear KS) | refine awp_seq (fun KS hK => ?_) | refine awp_region (fun KS EG hK hP => ?_) | refine awp_block ?_ | refine awp_skip ?_ | refine awp_ret ?_ | refine awp_exit ?_ | (refine awp_condT ?_ ?_; (focus (simp [*]; done))) | (refine awp_condF ?_ ?_; (focus (simp [*]; done))) | ((first | (refine aops_guardF rfl ?_ ?_; (focus (simp [*]; done))) | (refine aops_guardU rfl ?_ ?_; (focus (simp [*]; done)))); (first | refine aput_some (by decide) ?_ | refine aput_none ?_)))
            (refine awp_draw (fun KS EG hK hP => ?_); refine draw_rule rfl [(0, true), (1, false), (2, false), (3, true), (4, true), (5, false), (6, true), (7, true), (8, true)] [] [9] (by kernel_rfl) ?_; refine' dqs0)
            refine' wlk0
            refine hL.out _ _ (.less ((σ1.set b3 _).set b5 _) (by first | exact St.le_refl _ | (rw [set_over _ _ _ _ (by assumption), set_comm σ1 (show b5 ≠ b3 by assumption)]; exact St.le_refl _)) (.same ⟨mixT, ⟨e1, a, _, _, ?_, Lib.hid ⟨HS.out, by have := hf.out.2; rw [Er.depth] at this; omega⟩, rfl⟩, ?_⟩))
            · simp [*]
            · have hm1 := HDD.out.1
              have hm2 := HDD.out.2
              simp [*]
      · have c1' : fa < 0 := by omega
        by_cases c3 : f = ⟨#[]⟩
        · subst c3
          have hs2 := HSZ.out
          rw [show (if 0 ≤ fa ∧ a < 0 then fa else a) = a from if_neg (by omega), if_pos (.inr c1')] at hs2
          have HS := Lib.hid hs2
          have hl := tell_size e1 a (p ++ (ByteArray.mk #[47] ++ ⟨#[]⟩))
          rw [hs2] at hl
          have hl2 := Nat.le_trans hl HB.out
          have e47 : (ByteArray.mk #[47]).size = 1 := rfl
          rw [ByteArray.size_append, ByteArray.size_append, e47] at hl2
          clear hs2 hl
          repeat (first | ((first | refine aops_cons (fun K9 hO => ?_) | (refine aops_guardT rfl ?_ (fun K9 hO => ?_); (focus (simp [*]; done)))); simp [*]; (try simp (discharger := omega) only [wrap_i64, dec_t, dec_f]); (first | ((try (first | refine .inl ⟨by omega, by omega, ?_⟩ | refine ⟨by omega, by omega, ?_⟩ | refine ⟨by omega, ?_⟩ | refine .inl ?_)); (first | (intro b; intros; (try have hneA := ne_own (b := b) hown1 (by assumption)); (try have hneB := ne_own (b := b) hown2 (by assumption)); (try have hneC := ne_own (b := b) hown3 (by assumption)); refine hO.out _ _ ?_) | refine hO.out _ _ ?_)) | ((first | refine Tri.call (AF.out _ _ (by simp [*])) ?_); (first | rintro _ _ ⟨rfl, h9⟩; replace h9 := h9.symm; subst h9 | rintro _ _ ⟨_, rfl, rfl⟩ | rintro _ _ ⟨_, _, rfl, rfl⟩ | rintro _ _ ⟨_, _, _, rfl, rfl⟩ | rintro _ τ9 ⟨rfl, h9⟩ | rintro _ τ9 ⟨x9, rfl, h9⟩ | rintro _ τ9 ⟨x9, y9, rfl, h9⟩); refine hO.out _ _ ?_)); clear hO; (try clear K9); (first | refine aput_some (by decide) ?_ | refine aput_none ?_)) | refine aops_nil ?_ | refine aseq_normal ?_ | refine aseq_ret ?_ | refine aseq_exit ?_ | refine ablock_normal ?_ | refine ablock_ret ?_ | refine ablock_same ?_ | refine ablock_other (by decide) ?_ | ((repeat ((fail_if_success (refine hK.out _ _ ?_)); clear hK; (try clear hP EG); (try clear KS))); refine hK.out _ _ ?_; clear hK; (try clear hP EG); try clear KS) | refine awp_seq (fun KS hK => ?_) | refine awp_region (fun KS EG hK hP => ?_) | refine awp_block ?_ | refine awp_skip ?_ | refine awp_ret ?_ | refine awp_exit ?_ | (refine awp_condT ?_ ?_; (focus (simp [*]; done))) | (refine awp_condF ?_ ?_; (focus (simp [*]; done))) | ((first | (refine aops_guardF rfl ?_ ?_; (focus (simp [*]; done))) | (refine aops_guardU rfl ?_ ?_; (focus (simp [*]; done)))); (first | refine aput_some (by decide) ?_ | refine aput_none ?_)))
          (refine awp_draw (fun KS EG hK hP => ?_); refine draw_rule rfl [(0, true), (1, false), (2, false), (3, true), (4, true), (5, false), (6, true), (7, true), (8, true)] [] [9] (by kernel_rfl) ?_; refine' dqs0)
          refine' wlk0
          refine hL.out _ _ (.less ((σ1.set b3 _).set b5 _) (by first | exact St.le_refl _ | (rw [set_over _ _ _ _ (by assumption), set_comm σ1 (show b5 ≠ b3 by assumption)]; exact St.le_refl _)) (.same ⟨mixT, ⟨e1, a, _, _, ?_, Lib.hid ⟨HS.out, by have := hf.out.2; rw [Er.depth] at this; omega⟩, rfl⟩, ?_⟩))
          · simp [*]
          · have hm1 := HDD.out.1
            have hm2 := HDD.out.2
            simp [*]
        · have hs2 := HSZ.out
          rw [show (if 0 ≤ fa ∧ a < 0 then fa else a) = a from if_neg (by omega), if_pos (.inl c3)] at hs2
          have HS := Lib.hid hs2
          have hl := tell_size e1 a (p ++ (ByteArray.mk #[47] ++ f))
          rw [hs2] at hl
          have hl2 := Nat.le_trans hl HB.out
          have e47 : (ByteArray.mk #[47]).size = 1 := rfl
          rw [ByteArray.size_append, ByteArray.size_append, e47] at hl2
          clear hs2 hl
          repeat (first | ((first | refine aops_cons (fun K9 hO => ?_) | (refine aops_guardT rfl ?_ (fun K9 hO => ?_); (focus (simp [*]; done)))); simp [*]; (try simp (discharger := omega) only [wrap_i64, dec_t, dec_f]); (first | ((try (first | refine .inl ⟨by omega, by omega, ?_⟩ | refine ⟨by omega, by omega, ?_⟩ | refine ⟨by omega, ?_⟩ | refine .inl ?_)); (first | (intro b; intros; (try have hneA := ne_own (b := b) hown1 (by assumption)); (try have hneB := ne_own (b := b) hown2 (by assumption)); (try have hneC := ne_own (b := b) hown3 (by assumption)); refine hO.out _ _ ?_) | refine hO.out _ _ ?_)) | ((first | refine Tri.call (AF.out _ _ (by simp [*])) ?_); (first | rintro _ _ ⟨rfl, h9⟩; replace h9 := h9.symm; subst h9 | rintro _ _ ⟨_, rfl, rfl⟩ | rintro _ _ ⟨_, _, rfl, rfl⟩ | rintro _ _ ⟨_, _, _, rfl, rfl⟩ | rintro _ τ9 ⟨rfl, h9⟩ | rintro _ τ9 ⟨x9, rfl, h9⟩ | rintro _ τ9 ⟨x9, y9, rfl, h9⟩); refine hO.out _ _ ?_)); clear hO; (try clear K9); (first | refine aput_some (by decide) ?_ | refine aput_none ?_)) | refine aops_nil ?_ | refine aseq_normal ?_ | refine aseq_ret ?_ | refine aseq_exit ?_ | refine ablock_normal ?_ | refine ablock_ret ?_ | refine ablock_same ?_ | refine ablock_other (by decide) ?_ | ((repeat ((fail_if_success (refine hK.out _ _ ?_)); clear hK; (try clear hP EG); (try clear KS))); refine hK.out _ _ ?_; clear hK; (try clear hP EG); try clear KS) | refine awp_seq (fun KS hK => ?_) | refine awp_region (fun KS EG hK hP => ?_) | refine awp_block ?_ | refine awp_skip ?_ | refine awp_ret ?_ | refine awp_exit ?_ | (refine awp_condT ?_ ?_; (focus (simp [*]; done))) | (refine awp_condF ?_ ?_; (focus (simp [*]; done))) | ((first | (refine aops_guardF rfl ?_ ?_; (focus (simp [*]; done))) | (refine aops_guardU rfl ?_ ?_; (focus (simp [*]; done)))); (first | refine aput_some (by decide) ?_ | refine aput_none ?_)))
          (refine awp_draw (fun KS EG hK hP => ?_); refine draw_rule rfl [(0, true), (1, false), (2, false), (3, true), (4, true), (5, false), (6, true), (7, true), (8, true)] [] [9] (by kernel_rfl) ?_; refine' dqs0)
          refine' wlk0
          refine hL.out _ _ (.less ((σ1.set b3 _).set b5 _) (by first | exact St.le_refl _ | (rw [set_over _ _ _ _ (by assumption), set_comm σ1 (show b5 ≠ b3 by assumption)]; exact St.le_refl _)) (.same ⟨mixT, ⟨e1, a, _, _, ?_, Lib.hid ⟨HS.out, by have := hf.out.2; rw [Er.depth] at this; omega⟩, rfl⟩, ?_⟩))
          · simp [*]
          · have hm1 := HDD.out.1
            have hm2 := HDD.out.2
            simp [*]
end Go.Proofs.YtcmingndbhldgaaDoor
/-
  Walks (chapter 20): the law WalkGoes, walked.
-/
namespace Go.Proofs.YtcmingndbhldgaaDoor
open Go.RowKit
set_option maxRecDepth 100000
set_option linter.unusedVariables false
set_option linter.unusedSimpArgs false
attribute [local irreducible] awp aops aop aput aseq ablock TriX Tri Ret Fresh dq adraw dtail dals dfin Wk

theorem ErT.ext' {x y : ErT} (h1 : x.code = y.code) (h2 : x.at_ = y.at_) (h3 : x.path = y.path) : x = y := by
  cases x; cases y
  simp only at h1 h2 h3
  rw [h1, h2, h3]
def ErT.cells (x : ErT) : List Value := [.int .i64 x.code, .int .i64 x.at_, .string x.path]
set_option maxHeartbeats 4000000 in
theorem eqE_t (x : ErT) : AggEq Tryd.prog 37 x.d x.d true := by
  refine ⟨x.cells, x.cells, rfl, rfl, by kernel_rfl, fun w => ?_⟩
  rw [show (10000 : Nat) = 9999 + 1 from rfl, run_equalIn_agg w 9999 _ _ _ (by kernel_rfl) (by kernel_rfl)]
  simp only [Program.fieldsOf, Tryd.underlying37]
  unfold ErT.cells
  go_simp
theorem tell_fault (f : ByteArray) (c : Int) (hf : ¬ f = ⟨#[]⟩) : (Er.fault (-1) f (.code c)).tell (-1) ByteArray.empty = (-1, slash ++ f) := by
  rw [Er.tell, Er.tell, if_neg (by omega), if_pos (.inl hf)]
  simp [slash]
theorem told_fault (f : ByteArray) (c : Int) (hf : ¬ f = ⟨#[]⟩) : told (some (.fault (-1) f (.code c))) = ⟨c, -1, slash ++ f⟩ := by
  rw [told, tell_fault f c hf]
  rfl
/-- The document's walk, as it lies. -/
def refC (dep : Int) (sug : Bool) (row : List Stp) (came : List ByteArray) : List D := [.i dep, .b sug, .lst false 3 (row.map Stp.d), .lst false 1 (txtD came)]
set_option maxHeartbeats 16000000 in
theorem walkGoesT (l later : List RF) (hl : RFok l) (hr : RFok later) (root : ByteArray) (hroot : root.size ≤ 140737488351232) (dep fr : Int) (sug : Bool) (σ : St) :
    Tri Tryd.prog 3 [.lst false 3 (l.map RF.d), .lst false 3 (later.map RF.d), wayD root dep fr sug] σ fun d τ => d = .b true ∧ τ = σ := by
  have AW := Lib.hid awakeT
  have F1 := Lib.hid (fewT l hl)
  have F2 := Lib.hid (fewT later hr)
  unfold wayD
  by_cases hgood : (fewR l = true ∧ fewR later = true) ∧ ¬ 150 < root.size
  · obtain ⟨⟨hf1, hf2⟩, hbig⟩ := hgood
    have hA1 := ask_ok l hf1
    have hA2 := ask_ok later hf2
    have R1 := Lib.hid (refNextT l hf1)
    have R2 := Lib.hid (refNextT later hf2)
    rw [hf1] at F1
    rw [hf2] at F2
    have AT1 := Lib.hid (askT l)
    have AT2 := Lib.hid (askT later)
    have HN := Lib.hid (walkNewT root dep sug · (by omega))
    have RN := Lib.hid (refNewT root dep sug · (by omega))
    have TN := Lib.hid tellNilT
    have et : (told none).d = [.i 0, .i (-1), .s ByteArray.empty] := rfl
    rw [et] at TN
    have EQ := Lib.hid (show AggEq Tryd.prog 37 [.i 0, .i (-1), .s ByteArray.empty] [.i 0, .i (-1), .s ByteArray.empty] true from eqE_t ErT.none)
    clear hf1 hf2 et
    by_cases hok : isB 1 root = true ∧ 0 ≤ dep ∧ dep ≤ 10
    · have hN : ∀ σ, NewR root dep sug σ = fun d τ => ∃ bw bm, d = .tup [.at bw 0, .v .nilIface] ∧ WalkE σ τ bw bm dep sug [⟨root, 0, []⟩] [] := fun σ => by funext d τ; unfold NewR; rw [if_pos hok.1, if_pos hok.2]
      replace HN := Lib.hid (fun σ => hN σ ▸ HN.out σ)
      have hN2 : ∀ σ, RefNewR root dep sug σ = fun d τ => d = .tup [wD dep sug [⟨root, 0, []⟩] [], eD 0 ByteArray.empty] ∧ τ = σ := fun σ => by funext d τ; unfold RefNewR; rw [if_pos hok.1, if_pos hok.2]
      replace RN := Lib.hid (fun σ => hN2 σ ▸ RN.out σ)
      clear hN hN2
      have R0 : RowOk dep [⟨root, 0, []⟩] := fun s hs => by
        rw [List.mem_singleton.1 hs]
        exact ⟨by simp, hok.2.1, by simp, by simp only; omega⟩
      have hdep := hok.2.2
      have hw0 : wtL 12 dep [⟨root, 0, []⟩] ≤ wtN 12 10 := by
        simp only [wtL, wtS, Nat.add_zero]
        exact wtN_mono 12 (by omega)
      have hwB : wtN 12 10 ≤ 100000000000 := by decide
      have hw0 : wtL 12 dep [⟨root, 0, []⟩] ≤ 100000000000 := Nat.le_trans hw0 hwB
      obtain ⟨row0, hrow0⟩ : ∃ row0, row0 = [(⟨root, 0, []⟩ : Stp)] := ⟨_, rfl⟩
      rw [← hrow0] at HN RN R0 hw0
      replace hrow0 := Lib.hid hrow0
      have HR0 := Lib.hid R0
      have e0 : txtD [] = [] := rfl
      simp only [wD, eD, e0] at RN
      have HA1 := Lib.hid hA1
      have HA2 := Lib.hid hA2
      clear hA1 hA2 hok R0 hwB e0
      refine tri_fn Tryd.func3 rfl Tryd.ntmps3 Tryd.results3 (Nat.le_of_ble_eq_true rfl) ?_
      refine' wlk5 AW.out F1.out F2.out HN.out HN.out
      obtain ⟨b5, hb5⟩ : ∃ b5, b5 = b := ⟨_, rfl⟩
      subst hb5
      obtain ⟨bw, hbw⟩ : ∃ bw, bw = x9 := ⟨_, rfl⟩
      subst hbw
      obtain ⟨bm, hbm⟩ : ∃ bm, bm = y9 := ⟨_, rfl⟩
      subst hbm
      have hf5 : Fresh σ b5 := by assumption
      have hown1 := h9.sle _ _ (own_same _ _ _)
      have HW := Lib.hid h9
      clear h9
      refine' wlk1 RN.out
      obtain ⟨b10, hb10⟩ : ∃ b10, b10 = b := ⟨_, rfl⟩
      subst hb10
      (refine awp_draw (fun KS EG hK hP => ?_); refine draw_rule rfl [(0, true), (1, false), (2, false), (3, true), (4, true), (5, true), (6, true), (7, true), (8, false), (9, true), (10, true), (11, true)] [] [] (by kernel_rfl) ?_; repeat (first | ((first | refine dq_pu rfl ?_ | refine dq_rd rfl ?_ | (refine dq_gTp rfl rfl ?_ ?_; (focus (simp [*]; done))) | (refine dq_gTr rfl rfl ?_ ?_; (focus (simp [*]; done)))); constructor; refine And.intro (fun _ _ hO => ?_) ?_; (focus (simp [*]; (try simp (discharger := omega) only [wrap_i64, dec_t, dec_f]); (first | ((try (first | refine .inl ⟨?_, by omega, by omega⟩ | refine ⟨by omega, by omega, ?_⟩ | refine ⟨by omega, ?_⟩ | refine .inl ?_)); exact hO.out _ _ (.refl _) (St.le_refl _)) | ((first | refine Tri.call (TN.out _) ?_ | refine Tri.call (EQ.out) ?_); rintro _ _ ⟨rfl, h9⟩; replace h9 := h9.symm; subst h9; exact hO.out _ _ (.refl _) (St.le_refl _)) | exact .inr ⟨(TN.out _), hO.out _ _ (.refl _) (St.le_refl _)⟩ | exact .inl ⟨(TN.out _), hO.out _ _ (.refl _) (St.le_refl _)⟩ | exact ⟨_, (TN.out _), hO.out _ _ (.refl _) (St.le_refl _)⟩ | exact .inr ⟨(EQ.out), hO.out _ _ (.refl _) (St.le_refl _)⟩ | exact .inl ⟨(EQ.out), hO.out _ _ (.refl _) (St.le_refl _)⟩ | exact ⟨_, (EQ.out), hO.out _ _ (.refl _) (St.le_refl _)⟩))); (first | refine aput_some (by decide) ?_ | refine aput_none ?_)) | ((first | (refine dq_gF rfl rfl ?_ ?_; (focus (simp [*]; done))) | (refine dq_gU rfl rfl ?_ ?_; (focus (simp [*]; done)))); (first | refine aput_some (by decide) ?_ | refine aput_none ?_)) | refine dq_nil ?_ | refine dtail_none ?_ | refine dtail_some ?_ | refine dals_alloc rfl (by decide) (by simp; rfl) ?_ | refine dals_box rfl (by decide) (by simp [*]; rfl) ?_  | (refine dals_arrO rfl (by decide) (by first | rfl | simp) (by simp) (by intro σ'; simp [*]; exact TN.out _ σ') (by first | assumption | simp) ?_) | (refine dals_arrO rfl (by decide) (by first | rfl | simp) (by simp) (by intro σ'; simp [*]; exact EQ.out σ') (by first | assumption | simp) ?_) | refine dals_nil ?_ | refine dfin_nil ?_ | (refine dfin_cons rfl ?_; simp only [fresh_set, ne_eq, and_assoc]; intro b8 c8 hf8 hc8; (try subst hc8); (repeat (obtain ⟨_, hf8⟩ := hf8))) | (refine aops_idx rfl (fun K9 hO => ?_); simp [*]; (try simp (discharger := omega) only [wrap_i64, dec_t, dec_f]); (first | ((try (first | refine .inl ⟨by omega, by omega, ?_⟩ | refine ⟨by omega, by omega, ?_⟩ | refine ⟨by omega, ?_⟩ | refine .inl ?_)); (first | (intro b; intros; (try have hneA := ne_own (b := b) hown1 (by assumption)); (try have hneB := ne_own (b := b) hown2 (by assumption)); (try have hneC := ne_own (b := b) hown3 (by assumption)); refine hO.out _ _ ?_) | refine hO.out _ _ ?_)) | ((first | refine Tri.call (TN.out _) ?_ | refine Tri.call (EQ.out) ?_); (first | rintro _ _ ⟨rfl, h9⟩; replace h9 := h9.symm; subst h9 | rintro _ _ ⟨_, rfl, rfl⟩ | rintro _ _ ⟨_, _, rfl, rfl⟩ | rintro _ _ ⟨_, _, _, rfl, rfl⟩ | rintro _ τ9 ⟨rfl, h9⟩ | rintro _ τ9 ⟨x9, rfl, h9⟩ | rintro _ τ9 ⟨x9, y9, rfl, h9⟩); refine hO.out _ _ ?_)); clear hO; (try clear K9); (first | refine aput_some (by decide) ?_ | refine aput_none ?_)) | refine aops_end ?_ | ((repeat ((fail_if_success (refine hK.out _ _ ?_)); clear hK; (try clear hP EG); (try clear KS))); refine hK.out _ _ ?_; clear hK; (try clear hP EG); try clear KS)))
      refine' wlk0
      obtain ⟨b9, hb9⟩ : ∃ b9, b9 = b := ⟨_, rfl⟩
      subst hb9
      have hf9 : Fresh τ9 b9 := by assumption
      have hf10 : Fresh τ9 b10 := by assumption
      have n1 : ¬ b10 = b9 := by assumption
      have n2 : ¬ b9 = b10 := by assumption
      rw [set_over _ _ _ _ n2, set_over _ _ _ _ n1]
      refine awp_genF (fun F0 hF0 => ?_)
      have g0 : F0 0 = .lst false 3 (l.map RF.d) := by rw [hF0]; simp [*]
      have g1 : F0 1 = .lst false 3 (later.map RF.d) := by rw [hF0]; simp [*]
      have g5 : F0 5 = .at b5 0 := by rw [hF0]; simp [*]
      have g7 : F0 7 = .at bw 0 := by rw [hF0]; simp [*]
      have g9 : F0 9 = .at b9 0 := by rw [hF0]; simp [*]
      have g11 : F0 11 = .i 0 := by rw [hF0]; simp [*]
      clear hF0
      obtain ⟨σ4, hσ4⟩ : ∃ σ4, σ4 = σ.set b5 (some (.box 24 [.s root, .i dep, .i fr, .b sug])) := ⟨_, rfl⟩
      rw [← hσ4] at HW
      have HL4 := Lib.hid (show σ.le σ4 from hσ4 ▸ St.le_set (St.le_refl _) hf5)
      have HO5 := Lib.hid (show σ4.own b5 = some (.box 24 [.s root, .i dep, .i fr, .b sug]) from hσ4 ▸ own_same _ _ _)
      have HF9 := Lib.hid (Fresh.of_le HW.out.sle hf9)
      have HS0 := Lib.hid ((HW.out.with (x := .box 35 (refC dep sug row0 [])) hf9).mono (St.le_set (x := some (.box 37 [.i 0, .i (-1), .s ByteArray.empty])) (St.le_refl _) ((fresh_set _ _ _ _).2 ⟨⟨n1, n2⟩, hf10⟩)))
      clear hσ4 hf9 hf10 hown1 hf5 HW n1 n2
      refine awp_loopM [6, 11, 12, 13, 14, 15, 16, 17, 18, 19, 85, 86, 87, 88, 89, 90, 91, 92, 93, 94, 95, 96, 97, 98, 99, 100, 101, 102, 103, 104, 105, 106, 107, 108, 109, 110, 111, 112, 113, 114, 115, 116, 117, 118, 119, 120, 121, 122, 123, 124, 125, 126, 127, 128, 129, 130, 131, 132, 133, 134, 135, 136, 137, 138, 139, 140, 141, 142, 143, 144] (fun X τ => ∃ (n : Nat) (row : List Stp) (came : List ByteArray), WalkE (σ4.set b9 (some (.box 35 (refC dep sug row came)))) τ bw bm dep sug row came ∧ RowOk dep row ∧ came.length + wtL 12 dep row ≤ 100000000000 ∧ X 11 = .i n ∧ n ≤ 300) (fun X _ => 300 - (X 11).int.toNat) ?_ ?_
      · exact .same ⟨mix_self _ _, 0, row0, [], HS0.out, HR0.out, by simp only [List.length_nil]; omega, g11, by omega⟩
      · rintro X τ ⟨n, row, came, hW, hro, hwt, h11, hn⟩ _ hL
        have ho9 := hW.sle _ _ (own_same _ _ _)
        have hl5 := hW.sle _ _ (St.le_set (St.le_refl _) HF9.out _ _ HO5.out)
        have hlen := len_wt 12 dep row
        have HW := Lib.hid hW
        have HRO := Lib.hid hro
        have HFIN := Lib.hid (St.le_trans HL4.out (St.le_trans (St.le_set (St.le_refl _) HF9.out) hW.sle))
        clear hW hro
        by_cases hn3 : n < 300
        · by_cases hge : fr ≤ n
          · have NX := Lib.hid (walkNextT (askA later) 23 [.ptr [.lst false 3 (later.map RF.d)]] 12 HA2.out _ τ bw bm dep sug row came HW.out HRO.out hdep (by omega))
            have RX := Lib.hid (fun σ => R2.out dep sug row came HRO.out hdep (by omega) (by omega) σ)
            have NO := nextW_ok (sug := sug) HA2.out row came HRO.out
            have NC := nextW_came (askA later) dep sug 12 HA2.out.few row came
            have NK := nextW_kind (askA later) dep sug row came
            rcases hnx : nextW (askA later) dep sug row came with ⟨⟨row', came'⟩, res⟩
            rw [hnx] at NX RX NO NC NK
            simp only at NX RX NO NC NK
            clear hnx
            rcases res with _ | ⟨s, k⟩
            · have IS := Lib.hid (isT zStp zStp (by decide))
              have hii : isW zStp zStp = true := by simp [isW]
              rw [hii] at IS
              simp only [zStp, Stp.d] at IS
              simp only [stepD, refD, wD, zStp, Stp.d] at NX RX
              repeat (first | ((first | refine aops_cons (fun K9 hO => ?_) | (refine aops_guardT rfl ?_ (fun K9 hO => ?_); (focus (simp [*]; done)))); simp [*]; (try simp (discharger := omega) only [wrap_i64, dec_t, dec_f]); (first | ((try (first | refine .inl ⟨by omega, by omega, ?_⟩ | refine ⟨by omega, by omega, ?_⟩ | refine ⟨by omega, ?_⟩ | refine .inl ?_)); (first | (intro b; intros; (try have hneA := ne_own (b := b) hown1 (by assumption)); (try have hneB := ne_own (b := b) hown2 (by assumption)); (try have hneC := ne_own (b := b) hown3 (by assumption)); refine hO.out _ _ ?_) | refine hO.out _ _ ?_)) | ((first | refine Tri.call (AT2.out _) ?_ | refine Tri.call (NX.out) ?_); (first | rintro _ _ ⟨rfl, h9⟩; replace h9 := h9.symm; subst h9 | rintro _ _ ⟨_, rfl, rfl⟩ | rintro _ _ ⟨_, _, rfl, rfl⟩ | rintro _ _ ⟨_, _, _, rfl, rfl⟩ | rintro _ τ9 ⟨rfl, h9⟩ | rintro _ τ9 ⟨x9, rfl, h9⟩ | rintro _ τ9 ⟨x9, y9, rfl, h9⟩); refine hO.out _ _ ?_)); clear hO; (try clear K9); (first | refine aput_some (by decide) ?_ | refine aput_none ?_)) | refine aops_nil ?_ | refine aseq_normal ?_ | refine aseq_ret ?_ | refine aseq_exit ?_ | refine ablock_normal ?_ | refine ablock_ret ?_ | refine ablock_same ?_ | refine ablock_other (by decide) ?_ | ((repeat ((fail_if_success (refine hK.out _ _ ?_)); clear hK; (try clear hP EG); (try clear KS))); refine hK.out _ _ ?_; clear hK; (try clear hP EG); try clear KS) | refine awp_seq (fun KS hK => ?_) | refine awp_region (fun KS EG hK hP => ?_) | refine awp_block ?_ | refine awp_skip ?_ | refine awp_ret ?_ | refine awp_exit ?_ | (refine awp_condT ?_ ?_; (focus (simp [*]; done))) | (refine awp_condF ?_ ?_; (focus (simp [*]; done))) | ((first | (refine aops_guardF rfl ?_ ?_; (focus (simp [*]; done))) | (refine aops_guardU rfl ?_ ?_; (focus (simp [*]; done)))); (first | refine aput_some (by decide) ?_ | refine aput_none ?_)))
              have p9 := h9.sle _ _ (own_same _ _ _)
              rw [refC] at p9
              have p5 := h9.sle _ _ (St.le_set (St.le_refl _) HF9.out _ _ HO5.out)
              have H9 := Lib.hid h9
              obtain ⟨bs, cap, ds, hS⟩ := h9
              have o1 := hS.box
              have o2 := hS.arr
              have o3 := hS.map
              have LV := Lib.hid hS.live
              have q1 := ((fresh_set _ _ _ _).1 hS.fb).1
              have q2 := ((fresh_set _ _ _ _).1 hS.fs).1
              have q3 := ((fresh_set _ _ _ _).1 hS.fm).1
              have q4 : ¬ b5 = b9 := fun e => (ne_own HO5.out HF9.out).1 e
              clear hS
              obtain ⟨b13, hb13⟩ : ∃ b13, b13 = b := ⟨_, rfl⟩
              subst hb13
              have f13 : Fresh τ9 b13 := by assumption
              have v1 := ne_own p9 f13
              have v2 := ne_own p5 f13
              have v3 := ne_own o1 f13
              have v4 := ne_own o2 f13
              have v5 := ne_own o3 f13
              refine' wlk1 RX.out
              rename_i b16 _ _ f16 w1 w2 _ _ f17 KS hK
              obtain ⟨b17, hb17⟩ : ∃ b17, b17 = b := ⟨_, rfl⟩
              subst hb17
              rw [set_over _ _ _ _ w2, set_over _ _ _ _ w1]
              have v6 := ne_own p9 f16
              have v7 := ne_own p5 f16
              have v8 := ne_own o1 f16
              have v9 := ne_own o2 f16
              have v10 := ne_own o3 f16
              have v11 := ne_own p9 f17
              have v12 := ne_own p5 f17
              have v13 := ne_own o1 f17
              have v14 := ne_own o2 f17
              have v15 := ne_own o3 f17
              have hlen' := len_wt 12 dep row'
              have OV := Lib.hid (fun (x : St) (k1 : x.own bw = some (.box 73 [.i dep, .b sug, .arr bs 3 cap 0 row'.length, .v (.map (some bm))])) (k2 : x.own bs = some (.arr 46 3 cap ds)) (k3 : x.own bm = some (.mp (cameE came'))) => overT x bw bs bm cap ds dep sug row' came' k1 k2 k3 LV.out (by omega))
              have RO := Lib.hid (fun σ => refOverT dep sug row' came' (by omega) (by omega) σ)
              simp only [wD] at RO
              obtain ⟨ov, hov⟩ : ∃ ov, ov = overW row' came' := ⟨_, rfl⟩
              rw [← hov] at OV RO
              clear hov
              have L9 : σ4.le τ9 := St.le_trans (St.le_set (St.le_refl _) HF9.out) H9.out.sle
              have HLR := Lib.hid (fun (x : Own) => St.le_trans HL4.out (St.le_set (x := some x) (St.le_set (x := some (.box 50 [.s ByteArray.empty, .i 0, .lst false 1 (txtD [])])) (St.le_set (x := some (.box 35 (refC dep sug row' came'))) (St.le_set (x := some (.box 46 [.s ByteArray.empty, .i 0, .lst false 1 (txtD [])])) L9 (Fresh.of_le L9 f13)) (Fresh.of_le L9 f16)) (Fresh.of_le L9 f17)) HF9.out))
              refine' wlk0
              cases ov
              all_goals
                (refine awp_draw (fun KS EG hK hP => ?_); refine draw_rule rfl [(0, true), (1, true), (2, true), (3, true), (4, true), (5, true), (6, true), (7, true), (8, true), (9, false), (10, false), (11, false), (12, true), (13, true), (14, true), (15, true), (16, false), (17, false), (18, false), (19, true), (20, true)] [] [] (by kernel_rfl) ?_; repeat (first | ((first | refine dq_pu rfl ?_ | refine dq_rd rfl ?_ | (refine dq_gTp rfl rfl ?_ ?_; (focus (simp [*]; done))) | (refine dq_gTr rfl rfl ?_ ?_; (focus (simp [*]; done)))); constructor; refine And.intro (fun _ _ hO => ?_) ?_; (focus (simp [*]; (try simp (discharger := omega) only [wrap_i64, dec_t, dec_f]); (first | ((try (first | refine .inl ⟨?_, by omega, by omega⟩ | refine ⟨by omega, by omega, ?_⟩ | refine ⟨by omega, ?_⟩ | refine .inl ?_)); exact hO.out _ _ (.refl _) (St.le_refl _)) | ((first | refine Tri.call (IS.out _) ?_ | refine Tri.call (OV.out _ (by simp [own_ext, own_set, *]) (by simp [own_ext, own_set, *]) (by simp [own_ext, own_set, *])) ?_ | refine Tri.call (RO.out _) ?_); rintro _ _ ⟨rfl, h9⟩; replace h9 := h9.symm; subst h9; exact hO.out _ _ (.refl _) (St.le_refl _)) | exact .inr ⟨(IS.out _), hO.out _ _ (.refl _) (St.le_refl _)⟩ | exact .inl ⟨(IS.out _), hO.out _ _ (.refl _) (St.le_refl _)⟩ | exact ⟨_, (IS.out _), hO.out _ _ (.refl _) (St.le_refl _)⟩ | exact .inr ⟨(OV.out _ (by simp [own_ext, own_set, *]) (by simp [own_ext, own_set, *]) (by simp [own_ext, own_set, *])), hO.out _ _ (.refl _) (St.le_refl _)⟩ | exact .inl ⟨(OV.out _ (by simp [own_ext, own_set, *]) (by simp [own_ext, own_set, *]) (by simp [own_ext, own_set, *])), hO.out _ _ (.refl _) (St.le_refl _)⟩ | exact ⟨_, (OV.out _ (by simp [own_ext, own_set, *]) (by simp [own_ext, own_set, *]) (by simp [own_ext, own_set, *])), hO.out _ _ (.refl _) (St.le_refl _)⟩ | exact .inr ⟨(RO.out _), hO.out _ _ (.refl _) (St.le_refl _)⟩ | exact .inl ⟨(RO.out _), hO.out _ _ (.refl _) (St.le_refl _)⟩ | exact ⟨_, (RO.out _), hO.out _ _ (.refl _) (St.le_refl _)⟩))); (first | refine aput_some (by decide) ?_ | refine aput_none ?_)) | ((first | (refine dq_gF rfl rfl ?_ ?_; (focus (simp [*]; done))) | (refine dq_gU rfl rfl ?_ ?_; (focus (simp [*]; done)))); (first | refine aput_some (by decide) ?_ | refine aput_none ?_)) | refine dq_nil ?_ | refine dtail_none ?_ | refine dtail_some ?_ | refine dals_alloc rfl (by decide) (by simp; rfl) ?_ | refine dals_box rfl (by decide) (by simp [*]; rfl) ?_  | (refine dals_arrO rfl (by decide) (by first | rfl | simp) (by simp) (by intro σ'; simp [*]; exact IS.out _ σ') (by first | assumption | simp) ?_) | (refine dals_arrO rfl (by decide) (by first | rfl | simp) (by simp) (by intro σ'; simp [*]; exact OV.out _ (by simp [own_ext, own_set, *]) (by simp [own_ext, own_set, *]) (by simp [own_ext, own_set, *]) σ') (by first | assumption | simp) ?_) | (refine dals_arrO rfl (by decide) (by first | rfl | simp) (by simp) (by intro σ'; simp [*]; exact RO.out _ σ') (by first | assumption | simp) ?_) | refine dals_nil ?_ | refine dfin_nil ?_ | (refine dfin_cons rfl ?_; simp only [fresh_set, ne_eq, and_assoc]; intro b8 c8 hf8 hc8; (try subst hc8); (repeat (obtain ⟨_, hf8⟩ := hf8))) | (refine aops_idx rfl (fun K9 hO => ?_); simp [*]; (try simp (discharger := omega) only [wrap_i64, dec_t, dec_f]); (first | ((try (first | refine .inl ⟨by omega, by omega, ?_⟩ | refine ⟨by omega, by omega, ?_⟩ | refine ⟨by omega, ?_⟩ | refine .inl ?_)); (first | (intro b; intros; (try have hneA := ne_own (b := b) hown1 (by assumption)); (try have hneB := ne_own (b := b) hown2 (by assumption)); (try have hneC := ne_own (b := b) hown3 (by assumption)); refine hO.out _ _ ?_) | refine hO.out _ _ ?_)) | ((first | refine Tri.call (IS.out _) ?_ | refine Tri.call (OV.out _ (by simp [own_ext, own_set, *]) (by simp [own_ext, own_set, *]) (by simp [own_ext, own_set, *])) ?_ | refine Tri.call (RO.out _) ?_); (first | rintro _ _ ⟨rfl, h9⟩; replace h9 := h9.symm; subst h9 | rintro _ _ ⟨_, rfl, rfl⟩ | rintro _ _ ⟨_, _, rfl, rfl⟩ | rintro _ _ ⟨_, _, _, rfl, rfl⟩ | rintro _ τ9 ⟨rfl, h9⟩ | rintro _ τ9 ⟨x9, rfl, h9⟩ | rintro _ τ9 ⟨x9, y9, rfl, h9⟩); refine hO.out _ _ ?_)); clear hO; (try clear K9); (first | refine aput_some (by decide) ?_ | refine aput_none ?_)) | refine aops_end ?_ | ((repeat ((fail_if_success (refine hK.out _ _ ?_)); clear hK; (try clear hP EG); (try clear KS))); refine hK.out _ _ ?_; clear hK; (try clear hP EG); try clear KS)))
                refine' wlk0
              all_goals
                ((try simp [*]); (try simp (discharger := omega) only [wrap_i64, dec_t, dec_f]))
                exact .mk _ σ (.refl _) (HLR.out _) ⟨rfl, rfl⟩
            · have IS := Lib.hid (isT s s (by have := (NO.2 s k rfl).2; omega))
              have hii : isW s s = true := by simp [isW]
              rw [hii] at IS
              simp only [Stp.d] at IS
              simp only [stepD, refD, wD, Stp.d] at NX RX
              rcases NK s k rfl with rfl | rfl
              · repeat (first | ((first | refine aops_cons (fun K9 hO => ?_) | (refine aops_guardT rfl ?_ (fun K9 hO => ?_); (focus (simp [*]; done)))); simp [*]; (try simp (discharger := omega) only [wrap_i64, dec_t, dec_f]); (first | ((try (first | refine .inl ⟨by omega, by omega, ?_⟩ | refine ⟨by omega, by omega, ?_⟩ | refine ⟨by omega, ?_⟩ | refine .inl ?_)); (first | (intro b; intros; (try have hneA := ne_own (b := b) hown1 (by assumption)); (try have hneB := ne_own (b := b) hown2 (by assumption)); (try have hneC := ne_own (b := b) hown3 (by assumption)); refine hO.out _ _ ?_) | refine hO.out _ _ ?_)) | ((first | refine Tri.call (AT2.out _) ?_ | refine Tri.call (NX.out) ?_); (first | rintro _ _ ⟨rfl, h9⟩; replace h9 := h9.symm; subst h9 | rintro _ _ ⟨_, rfl, rfl⟩ | rintro _ _ ⟨_, _, rfl, rfl⟩ | rintro _ _ ⟨_, _, _, rfl, rfl⟩ | rintro _ τ9 ⟨rfl, h9⟩ | rintro _ τ9 ⟨x9, rfl, h9⟩ | rintro _ τ9 ⟨x9, y9, rfl, h9⟩); refine hO.out _ _ ?_)); clear hO; (try clear K9); (first | refine aput_some (by decide) ?_ | refine aput_none ?_)) | refine aops_nil ?_ | refine aseq_normal ?_ | refine aseq_ret ?_ | refine aseq_exit ?_ | refine ablock_normal ?_ | refine ablock_ret ?_ | refine ablock_same ?_ | refine ablock_other (by decide) ?_ | ((repeat ((fail_if_success (refine hK.out _ _ ?_)); clear hK; (try clear hP EG); (try clear KS))); refine hK.out _ _ ?_; clear hK; (try clear hP EG); try clear KS) | refine awp_seq (fun KS hK => ?_) | refine awp_region (fun KS EG hK hP => ?_) | refine awp_block ?_ | refine awp_skip ?_ | refine awp_ret ?_ | refine awp_exit ?_ | (refine awp_condT ?_ ?_; (focus (simp [*]; done))) | (refine awp_condF ?_ ?_; (focus (simp [*]; done))) | ((first | (refine aops_guardF rfl ?_ ?_; (focus (simp [*]; done))) | (refine aops_guardU rfl ?_ ?_; (focus (simp [*]; done)))); (first | refine aput_some (by decide) ?_ | refine aput_none ?_)))
                have p9 := h9.sle _ _ (own_same _ _ _)
                rw [refC] at p9
                have p5 := h9.sle _ _ (St.le_set (St.le_refl _) HF9.out _ _ HO5.out)
                have H9 := Lib.hid h9
                obtain ⟨bs, cap, ds, hS⟩ := h9
                have o1 := hS.box
                have o2 := hS.arr
                have o3 := hS.map
                have LV := Lib.hid hS.live
                have q1 := ((fresh_set _ _ _ _).1 hS.fb).1
                have q2 := ((fresh_set _ _ _ _).1 hS.fs).1
                have q3 := ((fresh_set _ _ _ _).1 hS.fm).1
                have q4 : ¬ b5 = b9 := fun e => (ne_own HO5.out HF9.out).1 e
                clear hS
                obtain ⟨b13, hb13⟩ : ∃ b13, b13 = b := ⟨_, rfl⟩
                subst hb13
                have f13 : Fresh τ9 b13 := by assumption
                have v1 := ne_own p9 f13
                have v2 := ne_own p5 f13
                have v3 := ne_own o1 f13
                have v4 := ne_own o2 f13
                have v5 := ne_own o3 f13
                refine' wlk1 RX.out
                rename_i b16 _ _ f16 w1 w2 _ _ f17 KS hK
                obtain ⟨b17, hb17⟩ : ∃ b17, b17 = b := ⟨_, rfl⟩
                subst hb17
                rw [set_over _ _ _ _ w2, set_over _ _ _ _ w1]
                have v6 := ne_own p9 f16
                have v7 := ne_own p5 f16
                have v8 := ne_own o1 f16
                have v9 := ne_own o2 f16
                have v10 := ne_own o3 f16
                have v11 := ne_own p9 f17
                have v12 := ne_own p5 f17
                have v13 := ne_own o1 f17
                have v14 := ne_own o2 f17
                have v15 := ne_own o3 f17
                have hlen' := len_wt 12 dep row'
                have OV := Lib.hid (fun (x : St) (k1 : x.own bw = some (.box 73 [.i dep, .b sug, .arr bs 3 cap 0 row'.length, .v (.map (some bm))])) (k2 : x.own bs = some (.arr 46 3 cap ds)) (k3 : x.own bm = some (.mp (cameE came'))) => overT x bw bs bm cap ds dep sug row' came' k1 k2 k3 LV.out (by omega))
                have RO := Lib.hid (fun σ => refOverT dep sug row' came' (by omega) (by omega) σ)
                simp only [wD] at RO
                obtain ⟨ov, hov⟩ : ∃ ov, ov = overW row' came' := ⟨_, rfl⟩
                rw [← hov] at OV RO
                clear hov
                have L9 : σ4.le τ9 := St.le_trans (St.le_set (St.le_refl _) HF9.out) H9.out.sle
                have HLR := Lib.hid (fun (x : Own) => St.le_trans HL4.out (St.le_set (x := some x) (St.le_set (x := some (.box 50 [.s s.room, .i s.depth, .lst false 1 (txtD s.via)])) (St.le_set (x := some (.box 35 (refC dep sug row' came'))) (St.le_set (x := some (.box 46 [.s s.room, .i s.depth, .lst false 1 (txtD s.via)])) L9 (Fresh.of_le L9 f13)) (Fresh.of_le L9 f16)) (Fresh.of_le L9 f17)) HF9.out))
                refine' wlk0
                cases ov
                all_goals
                  (refine awp_draw (fun KS EG hK hP => ?_); refine draw_rule rfl [(0, true), (1, true), (2, true), (3, true), (4, true), (5, true), (6, true), (7, true), (8, true), (9, false), (10, false), (11, false), (12, true), (13, true), (14, true), (15, true), (16, false), (17, false), (18, false), (19, true), (20, true)] [] [] (by kernel_rfl) ?_; repeat (first | ((first | refine dq_pu rfl ?_ | refine dq_rd rfl ?_ | (refine dq_gTp rfl rfl ?_ ?_; (focus (simp [*]; done))) | (refine dq_gTr rfl rfl ?_ ?_; (focus (simp [*]; done)))); constructor; refine And.intro (fun _ _ hO => ?_) ?_; (focus (simp [*]; (try simp (discharger := omega) only [wrap_i64, dec_t, dec_f]); (first | ((try (first | refine .inl ⟨?_, by omega, by omega⟩ | refine ⟨by omega, by omega, ?_⟩ | refine ⟨by omega, ?_⟩ | refine .inl ?_)); exact hO.out _ _ (.refl _) (St.le_refl _)) | ((first | refine Tri.call (IS.out _) ?_ | refine Tri.call (OV.out _ (by simp [own_ext, own_set, *]) (by simp [own_ext, own_set, *]) (by simp [own_ext, own_set, *])) ?_ | refine Tri.call (RO.out _) ?_); rintro _ _ ⟨rfl, h9⟩; replace h9 := h9.symm; subst h9; exact hO.out _ _ (.refl _) (St.le_refl _)) | exact .inr ⟨(IS.out _), hO.out _ _ (.refl _) (St.le_refl _)⟩ | exact .inl ⟨(IS.out _), hO.out _ _ (.refl _) (St.le_refl _)⟩ | exact ⟨_, (IS.out _), hO.out _ _ (.refl _) (St.le_refl _)⟩ | exact .inr ⟨(OV.out _ (by simp [own_ext, own_set, *]) (by simp [own_ext, own_set, *]) (by simp [own_ext, own_set, *])), hO.out _ _ (.refl _) (St.le_refl _)⟩ | exact .inl ⟨(OV.out _ (by simp [own_ext, own_set, *]) (by simp [own_ext, own_set, *]) (by simp [own_ext, own_set, *])), hO.out _ _ (.refl _) (St.le_refl _)⟩ | exact ⟨_, (OV.out _ (by simp [own_ext, own_set, *]) (by simp [own_ext, own_set, *]) (by simp [own_ext, own_set, *])), hO.out _ _ (.refl _) (St.le_refl _)⟩ | exact .inr ⟨(RO.out _), hO.out _ _ (.refl _) (St.le_refl _)⟩ | exact .inl ⟨(RO.out _), hO.out _ _ (.refl _) (St.le_refl _)⟩ | exact ⟨_, (RO.out _), hO.out _ _ (.refl _) (St.le_refl _)⟩))); (first | refine aput_some (by decide) ?_ | refine aput_none ?_)) | ((first | (refine dq_gF rfl rfl ?_ ?_; (focus (simp [*]; done))) | (refine dq_gU rfl rfl ?_ ?_; (focus (simp [*]; done)))); (first | refine aput_some (by decide) ?_ | refine aput_none ?_)) | refine dq_nil ?_ | refine dtail_none ?_ | refine dtail_some ?_ | refine dals_alloc rfl (by decide) (by simp; rfl) ?_ | refine dals_box rfl (by decide) (by simp [*]; rfl) ?_  | (refine dals_arrO rfl (by decide) (by first | rfl | simp) (by simp) (by intro σ'; simp [*]; exact IS.out _ σ') (by first | assumption | simp) ?_) | (refine dals_arrO rfl (by decide) (by first | rfl | simp) (by simp) (by intro σ'; simp [*]; exact OV.out _ (by simp [own_ext, own_set, *]) (by simp [own_ext, own_set, *]) (by simp [own_ext, own_set, *]) σ') (by first | assumption | simp) ?_) | (refine dals_arrO rfl (by decide) (by first | rfl | simp) (by simp) (by intro σ'; simp [*]; exact RO.out _ σ') (by first | assumption | simp) ?_) | refine dals_nil ?_ | refine dfin_nil ?_ | (refine dfin_cons rfl ?_; simp only [fresh_set, ne_eq, and_assoc]; intro b8 c8 hf8 hc8; (try subst hc8); (repeat (obtain ⟨_, hf8⟩ := hf8))) | (refine aops_idx rfl (fun K9 hO => ?_); simp [*]; (try simp (discharger := omega) only [wrap_i64, dec_t, dec_f]); (first | ((try (first | refine .inl ⟨by omega, by omega, ?_⟩ | refine ⟨by omega, by omega, ?_⟩ | refine ⟨by omega, ?_⟩ | refine .inl ?_)); (first | (intro b; intros; (try have hneA := ne_own (b := b) hown1 (by assumption)); (try have hneB := ne_own (b := b) hown2 (by assumption)); (try have hneC := ne_own (b := b) hown3 (by assumption)); refine hO.out _ _ ?_) | refine hO.out _ _ ?_)) | ((first | refine Tri.call (IS.out _) ?_ | refine Tri.call (OV.out _ (by simp [own_ext, own_set, *]) (by simp [own_ext, own_set, *]) (by simp [own_ext, own_set, *])) ?_ | refine Tri.call (RO.out _) ?_); (first | rintro _ _ ⟨rfl, h9⟩; replace h9 := h9.symm; subst h9 | rintro _ _ ⟨_, rfl, rfl⟩ | rintro _ _ ⟨_, _, rfl, rfl⟩ | rintro _ _ ⟨_, _, _, rfl, rfl⟩ | rintro _ τ9 ⟨rfl, h9⟩ | rintro _ τ9 ⟨x9, rfl, h9⟩ | rintro _ τ9 ⟨x9, y9, rfl, h9⟩); refine hO.out _ _ ?_)); clear hO; (try clear K9); (first | refine aput_some (by decide) ?_ | refine aput_none ?_)) | refine aops_end ?_ | ((repeat ((fail_if_success (refine hK.out _ _ ?_)); clear hK; (try clear hP EG); (try clear KS))); refine hK.out _ _ ?_; clear hK; (try clear hP EG); try clear KS)))
                  refine' wlk0
                all_goals
                  ((try simp [*]); (try simp (discharger := omega) only [wrap_i64, dec_t, dec_f]))
                  exact .mk _ σ (.refl _) (HLR.out _) ⟨rfl, rfl⟩
              · repeat (first | ((first | refine aops_cons (fun K9 hO => ?_) | (refine aops_guardT rfl ?_ (fun K9 hO => ?_); (focus (simp [*]; done)))); simp [*]; (try simp (discharger := omega) only [wrap_i64, dec_t, dec_f]); (first | ((try (first | refine .inl ⟨by omega, by omega, ?_⟩ | refine ⟨by omega, by omega, ?_⟩ | refine ⟨by omega, ?_⟩ | refine .inl ?_)); (first | (intro b; intros; (try have hneA := ne_own (b := b) hown1 (by assumption)); (try have hneB := ne_own (b := b) hown2 (by assumption)); (try have hneC := ne_own (b := b) hown3 (by assumption)); refine hO.out _ _ ?_) | refine hO.out _ _ ?_)) | ((first | refine Tri.call (AT2.out _) ?_ | refine Tri.call (NX.out) ?_); (first | rintro _ _ ⟨rfl, h9⟩; replace h9 := h9.symm; subst h9 | rintro _ _ ⟨_, rfl, rfl⟩ | rintro _ _ ⟨_, _, rfl, rfl⟩ | rintro _ _ ⟨_, _, _, rfl, rfl⟩ | rintro _ τ9 ⟨rfl, h9⟩ | rintro _ τ9 ⟨x9, rfl, h9⟩ | rintro _ τ9 ⟨x9, y9, rfl, h9⟩); refine hO.out _ _ ?_)); clear hO; (try clear K9); (first | refine aput_some (by decide) ?_ | refine aput_none ?_)) | refine aops_nil ?_ | refine aseq_normal ?_ | refine aseq_ret ?_ | refine aseq_exit ?_ | refine ablock_normal ?_ | refine ablock_ret ?_ | refine ablock_same ?_ | refine ablock_other (by decide) ?_ | ((repeat ((fail_if_success (refine hK.out _ _ ?_)); clear hK; (try clear hP EG); (try clear KS))); refine hK.out _ _ ?_; clear hK; (try clear hP EG); try clear KS) | refine awp_seq (fun KS hK => ?_) | refine awp_region (fun KS EG hK hP => ?_) | refine awp_block ?_ | refine awp_skip ?_ | refine awp_ret ?_ | refine awp_exit ?_ | (refine awp_condT ?_ ?_; (focus (simp [*]; done))) | (refine awp_condF ?_ ?_; (focus (simp [*]; done))) | ((first | (refine aops_guardF rfl ?_ ?_; (focus (simp [*]; done))) | (refine aops_guardU rfl ?_ ?_; (focus (simp [*]; done)))); (first | refine aput_some (by decide) ?_ | refine aput_none ?_)))
                have p9 := h9.sle _ _ (own_same _ _ _)
                rw [refC] at p9
                have p5 := h9.sle _ _ (St.le_set (St.le_refl _) HF9.out _ _ HO5.out)
                have H9 := Lib.hid h9
                obtain ⟨bs, cap, ds, hS⟩ := h9
                have o1 := hS.box
                have o2 := hS.arr
                have o3 := hS.map
                have LV := Lib.hid hS.live
                have q1 := ((fresh_set _ _ _ _).1 hS.fb).1
                have q2 := ((fresh_set _ _ _ _).1 hS.fs).1
                have q3 := ((fresh_set _ _ _ _).1 hS.fm).1
                have q4 : ¬ b5 = b9 := fun e => (ne_own HO5.out HF9.out).1 e
                clear hS
                obtain ⟨b13, hb13⟩ : ∃ b13, b13 = b := ⟨_, rfl⟩
                subst hb13
                have f13 : Fresh τ9 b13 := by assumption
                have v1 := ne_own p9 f13
                have v2 := ne_own p5 f13
                have v3 := ne_own o1 f13
                have v4 := ne_own o2 f13
                have v5 := ne_own o3 f13
                refine' wlk1 RX.out
                rename_i b16 _ _ f16 w1 w2 _ _ f17 KS hK
                obtain ⟨b17, hb17⟩ : ∃ b17, b17 = b := ⟨_, rfl⟩
                subst hb17
                rw [set_over _ _ _ _ w2, set_over _ _ _ _ w1]
                have v6 := ne_own p9 f16
                have v7 := ne_own p5 f16
                have v8 := ne_own o1 f16
                have v9 := ne_own o2 f16
                have v10 := ne_own o3 f16
                have v11 := ne_own p9 f17
                have v12 := ne_own p5 f17
                have v13 := ne_own o1 f17
                have v14 := ne_own o2 f17
                have v15 := ne_own o3 f17
                have hlen' := len_wt 12 dep row'
                have OV := Lib.hid (fun (x : St) (k1 : x.own bw = some (.box 73 [.i dep, .b sug, .arr bs 3 cap 0 row'.length, .v (.map (some bm))])) (k2 : x.own bs = some (.arr 46 3 cap ds)) (k3 : x.own bm = some (.mp (cameE came'))) => overT x bw bs bm cap ds dep sug row' came' k1 k2 k3 LV.out (by omega))
                have RO := Lib.hid (fun σ => refOverT dep sug row' came' (by omega) (by omega) σ)
                simp only [wD] at RO
                obtain ⟨ov, hov⟩ : ∃ ov, ov = overW row' came' := ⟨_, rfl⟩
                rw [← hov] at OV RO
                clear hov
                have L9 : σ4.le τ9 := St.le_trans (St.le_set (St.le_refl _) HF9.out) H9.out.sle
                have HLR := Lib.hid (fun (x : Own) => St.le_trans HL4.out (St.le_set (x := some x) (St.le_set (x := some (.box 50 [.s s.room, .i s.depth, .lst false 1 (txtD s.via)])) (St.le_set (x := some (.box 35 (refC dep sug row' came'))) (St.le_set (x := some (.box 46 [.s s.room, .i s.depth, .lst false 1 (txtD s.via)])) L9 (Fresh.of_le L9 f13)) (Fresh.of_le L9 f16)) (Fresh.of_le L9 f17)) HF9.out))
                refine' wlk0
                cases ov
                all_goals
                  (refine awp_draw (fun KS EG hK hP => ?_); refine draw_rule rfl [(0, true), (1, true), (2, true), (3, true), (4, true), (5, true), (6, true), (7, true), (8, true), (9, false), (10, false), (11, false), (12, true), (13, true), (14, true), (15, true), (16, false), (17, false), (18, false), (19, true), (20, true)] [] [] (by kernel_rfl) ?_; repeat (first | ((first | refine dq_pu rfl ?_ | refine dq_rd rfl ?_ | (refine dq_gTp rfl rfl ?_ ?_; (focus (simp [*]; done))) | (refine dq_gTr rfl rfl ?_ ?_; (focus (simp [*]; done)))); constructor; refine And.intro (fun _ _ hO => ?_) ?_; (focus (simp [*]; (try simp (discharger := omega) only [wrap_i64, dec_t, dec_f]); (first | ((try (first | refine .inl ⟨?_, by omega, by omega⟩ | refine ⟨by omega, by omega, ?_⟩ | refine ⟨by omega, ?_⟩ | refine .inl ?_)); exact hO.out _ _ (.refl _) (St.le_refl _)) | ((first | refine Tri.call (IS.out _) ?_ | refine Tri.call (OV.out _ (by simp [own_ext, own_set, *]) (by simp [own_ext, own_set, *]) (by simp [own_ext, own_set, *])) ?_ | refine Tri.call (RO.out _) ?_); rintro _ _ ⟨rfl, h9⟩; replace h9 := h9.symm; subst h9; exact hO.out _ _ (.refl _) (St.le_refl _)) | exact .inr ⟨(IS.out _), hO.out _ _ (.refl _) (St.le_refl _)⟩ | exact .inl ⟨(IS.out _), hO.out _ _ (.refl _) (St.le_refl _)⟩ | exact ⟨_, (IS.out _), hO.out _ _ (.refl _) (St.le_refl _)⟩ | exact .inr ⟨(OV.out _ (by simp [own_ext, own_set, *]) (by simp [own_ext, own_set, *]) (by simp [own_ext, own_set, *])), hO.out _ _ (.refl _) (St.le_refl _)⟩ | exact .inl ⟨(OV.out _ (by simp [own_ext, own_set, *]) (by simp [own_ext, own_set, *]) (by simp [own_ext, own_set, *])), hO.out _ _ (.refl _) (St.le_refl _)⟩ | exact ⟨_, (OV.out _ (by simp [own_ext, own_set, *]) (by simp [own_ext, own_set, *]) (by simp [own_ext, own_set, *])), hO.out _ _ (.refl _) (St.le_refl _)⟩ | exact .inr ⟨(RO.out _), hO.out _ _ (.refl _) (St.le_refl _)⟩ | exact .inl ⟨(RO.out _), hO.out _ _ (.refl _) (St.le_refl _)⟩ | exact ⟨_, (RO.out _), hO.out _ _ (.refl _) (St.le_refl _)⟩))); (first | refine aput_some (by decide) ?_ | refine aput_none ?_)) | ((first | (refine dq_gF rfl rfl ?_ ?_; (focus (simp [*]; done))) | (refine dq_gU rfl rfl ?_ ?_; (focus (simp [*]; done)))); (first | refine aput_some (by decide) ?_ | refine aput_none ?_)) | refine dq_nil ?_ | refine dtail_none ?_ | refine dtail_some ?_ | refine dals_alloc rfl (by decide) (by simp; rfl) ?_ | refine dals_box rfl (by decide) (by simp [*]; rfl) ?_  | (refine dals_arrO rfl (by decide) (by first | rfl | simp) (by simp) (by intro σ'; simp [*]; exact IS.out _ σ') (by first | assumption | simp) ?_) | (refine dals_arrO rfl (by decide) (by first | rfl | simp) (by simp) (by intro σ'; simp [*]; exact OV.out _ (by simp [own_ext, own_set, *]) (by simp [own_ext, own_set, *]) (by simp [own_ext, own_set, *]) σ') (by first | assumption | simp) ?_) | (refine dals_arrO rfl (by decide) (by first | rfl | simp) (by simp) (by intro σ'; simp [*]; exact RO.out _ σ') (by first | assumption | simp) ?_) | refine dals_nil ?_ | refine dfin_nil ?_ | (refine dfin_cons rfl ?_; simp only [fresh_set, ne_eq, and_assoc]; intro b8 c8 hf8 hc8; (try subst hc8); (repeat (obtain ⟨_, hf8⟩ := hf8))) | (refine aops_idx rfl (fun K9 hO => ?_); simp [*]; (try simp (discharger := omega) only [wrap_i64, dec_t, dec_f]); (first | ((try (first | refine .inl ⟨by omega, by omega, ?_⟩ | refine ⟨by omega, by omega, ?_⟩ | refine ⟨by omega, ?_⟩ | refine .inl ?_)); (first | (intro b; intros; (try have hneA := ne_own (b := b) hown1 (by assumption)); (try have hneB := ne_own (b := b) hown2 (by assumption)); (try have hneC := ne_own (b := b) hown3 (by assumption)); refine hO.out _ _ ?_) | refine hO.out _ _ ?_)) | ((first | refine Tri.call (IS.out _) ?_ | refine Tri.call (OV.out _ (by simp [own_ext, own_set, *]) (by simp [own_ext, own_set, *]) (by simp [own_ext, own_set, *])) ?_ | refine Tri.call (RO.out _) ?_); (first | rintro _ _ ⟨rfl, h9⟩; replace h9 := h9.symm; subst h9 | rintro _ _ ⟨_, rfl, rfl⟩ | rintro _ _ ⟨_, _, rfl, rfl⟩ | rintro _ _ ⟨_, _, _, rfl, rfl⟩ | rintro _ τ9 ⟨rfl, h9⟩ | rintro _ τ9 ⟨x9, rfl, h9⟩ | rintro _ τ9 ⟨x9, y9, rfl, h9⟩); refine hO.out _ _ ?_)); clear hO; (try clear K9); (first | refine aput_some (by decide) ?_ | refine aput_none ?_)) | refine aops_end ?_ | ((repeat ((fail_if_success (refine hK.out _ _ ?_)); clear hK; (try clear hP EG); (try clear KS))); refine hK.out _ _ ?_; clear hK; (try clear hP EG); try clear KS)))
                  refine' wlk0
                all_goals
                  refine hL.out _ _ (.less _ (St.set_le (St.le_set (St.le_set (St.le_set (St.le_refl _) f13) f16) f17)) (.same ⟨mixT, ⟨n + 1, row', came', H9.out.grow HF9.out _, NO.1, by omega, ?_, by omega⟩, ?_⟩))
                  · simp [*]
                  · simp [*, D.int]; omega
          · have NX := Lib.hid (walkNextT (askA l) 23 [.ptr [.lst false 3 (l.map RF.d)]] 12 HA1.out _ τ bw bm dep sug row came HW.out HRO.out hdep (by omega))
            have RX := Lib.hid (fun σ => R1.out dep sug row came HRO.out hdep (by omega) (by omega) σ)
            have NO := nextW_ok (sug := sug) HA1.out row came HRO.out
            have NC := nextW_came (askA l) dep sug 12 HA1.out.few row came
            have NK := nextW_kind (askA l) dep sug row came
            rcases hnx : nextW (askA l) dep sug row came with ⟨⟨row', came'⟩, res⟩
            rw [hnx] at NX RX NO NC NK
            simp only at NX RX NO NC NK
            clear hnx
            rcases res with _ | ⟨s, k⟩
            · have IS := Lib.hid (isT zStp zStp (by decide))
              have hii : isW zStp zStp = true := by simp [isW]
              rw [hii] at IS
              simp only [zStp, Stp.d] at IS
              simp only [stepD, refD, wD, zStp, Stp.d] at NX RX
              repeat (first | ((first | refine aops_cons (fun K9 hO => ?_) | (refine aops_guardT rfl ?_ (fun K9 hO => ?_); (focus (simp [*]; done)))); simp [*]; (try simp (discharger := omega) only [wrap_i64, dec_t, dec_f]); (first | ((try (first | refine .inl ⟨by omega, by omega, ?_⟩ | refine ⟨by omega, by omega, ?_⟩ | refine ⟨by omega, ?_⟩ | refine .inl ?_)); (first | (intro b; intros; (try have hneA := ne_own (b := b) hown1 (by assumption)); (try have hneB := ne_own (b := b) hown2 (by assumption)); (try have hneC := ne_own (b := b) hown3 (by assumption)); refine hO.out _ _ ?_) | refine hO.out _ _ ?_)) | ((first | refine Tri.call (AT1.out _) ?_ | refine Tri.call (NX.out) ?_); (first | rintro _ _ ⟨rfl, h9⟩; replace h9 := h9.symm; subst h9 | rintro _ _ ⟨_, rfl, rfl⟩ | rintro _ _ ⟨_, _, rfl, rfl⟩ | rintro _ _ ⟨_, _, _, rfl, rfl⟩ | rintro _ τ9 ⟨rfl, h9⟩ | rintro _ τ9 ⟨x9, rfl, h9⟩ | rintro _ τ9 ⟨x9, y9, rfl, h9⟩); refine hO.out _ _ ?_)); clear hO; (try clear K9); (first | refine aput_some (by decide) ?_ | refine aput_none ?_)) | refine aops_nil ?_ | refine aseq_normal ?_ | refine aseq_ret ?_ | refine aseq_exit ?_ | refine ablock_normal ?_ | refine ablock_ret ?_ | refine ablock_same ?_ | refine ablock_other (by decide) ?_ | ((repeat ((fail_if_success (refine hK.out _ _ ?_)); clear hK; (try clear hP EG); (try clear KS))); refine hK.out _ _ ?_; clear hK; (try clear hP EG); try clear KS) | refine awp_seq (fun KS hK => ?_) | refine awp_region (fun KS EG hK hP => ?_) | refine awp_block ?_ | refine awp_skip ?_ | refine awp_ret ?_ | refine awp_exit ?_ | (refine awp_condT ?_ ?_; (focus (simp [*]; done))) | (refine awp_condF ?_ ?_; (focus (simp [*]; done))) | ((first | (refine aops_guardF rfl ?_ ?_; (focus (simp [*]; done))) | (refine aops_guardU rfl ?_ ?_; (focus (simp [*]; done)))); (first | refine aput_some (by decide) ?_ | refine aput_none ?_)))
              have p9 := h9.sle _ _ (own_same _ _ _)
              rw [refC] at p9
              have p5 := h9.sle _ _ (St.le_set (St.le_refl _) HF9.out _ _ HO5.out)
              have H9 := Lib.hid h9
              obtain ⟨bs, cap, ds, hS⟩ := h9
              have o1 := hS.box
              have o2 := hS.arr
              have o3 := hS.map
              have LV := Lib.hid hS.live
              have q1 := ((fresh_set _ _ _ _).1 hS.fb).1
              have q2 := ((fresh_set _ _ _ _).1 hS.fs).1
              have q3 := ((fresh_set _ _ _ _).1 hS.fm).1
              have q4 : ¬ b5 = b9 := fun e => (ne_own HO5.out HF9.out).1 e
              clear hS
              obtain ⟨b13, hb13⟩ : ∃ b13, b13 = b := ⟨_, rfl⟩
              subst hb13
              have f13 : Fresh τ9 b13 := by assumption
              have v1 := ne_own p9 f13
              have v2 := ne_own p5 f13
              have v3 := ne_own o1 f13
              have v4 := ne_own o2 f13
              have v5 := ne_own o3 f13
              refine' wlk1 RX.out
              rename_i b16 _ _ f16 w1 w2 _ _ f17 KS hK
              obtain ⟨b17, hb17⟩ : ∃ b17, b17 = b := ⟨_, rfl⟩
              subst hb17
              rw [set_over _ _ _ _ w2, set_over _ _ _ _ w1]
              have v6 := ne_own p9 f16
              have v7 := ne_own p5 f16
              have v8 := ne_own o1 f16
              have v9 := ne_own o2 f16
              have v10 := ne_own o3 f16
              have v11 := ne_own p9 f17
              have v12 := ne_own p5 f17
              have v13 := ne_own o1 f17
              have v14 := ne_own o2 f17
              have v15 := ne_own o3 f17
              have hlen' := len_wt 12 dep row'
              have OV := Lib.hid (fun (x : St) (k1 : x.own bw = some (.box 73 [.i dep, .b sug, .arr bs 3 cap 0 row'.length, .v (.map (some bm))])) (k2 : x.own bs = some (.arr 46 3 cap ds)) (k3 : x.own bm = some (.mp (cameE came'))) => overT x bw bs bm cap ds dep sug row' came' k1 k2 k3 LV.out (by omega))
              have RO := Lib.hid (fun σ => refOverT dep sug row' came' (by omega) (by omega) σ)
              simp only [wD] at RO
              obtain ⟨ov, hov⟩ : ∃ ov, ov = overW row' came' := ⟨_, rfl⟩
              rw [← hov] at OV RO
              clear hov
              have L9 : σ4.le τ9 := St.le_trans (St.le_set (St.le_refl _) HF9.out) H9.out.sle
              have HLR := Lib.hid (fun (x : Own) => St.le_trans HL4.out (St.le_set (x := some x) (St.le_set (x := some (.box 50 [.s ByteArray.empty, .i 0, .lst false 1 (txtD [])])) (St.le_set (x := some (.box 35 (refC dep sug row' came'))) (St.le_set (x := some (.box 46 [.s ByteArray.empty, .i 0, .lst false 1 (txtD [])])) L9 (Fresh.of_le L9 f13)) (Fresh.of_le L9 f16)) (Fresh.of_le L9 f17)) HF9.out))
              refine' wlk0
              cases ov
              all_goals
                (refine awp_draw (fun KS EG hK hP => ?_); refine draw_rule rfl [(0, true), (1, true), (2, true), (3, true), (4, true), (5, true), (6, true), (7, true), (8, true), (9, false), (10, false), (11, false), (12, true), (13, true), (14, true), (15, true), (16, false), (17, false), (18, false), (19, true), (20, true)] [] [] (by kernel_rfl) ?_; repeat (first | ((first | refine dq_pu rfl ?_ | refine dq_rd rfl ?_ | (refine dq_gTp rfl rfl ?_ ?_; (focus (simp [*]; done))) | (refine dq_gTr rfl rfl ?_ ?_; (focus (simp [*]; done)))); constructor; refine And.intro (fun _ _ hO => ?_) ?_; (focus (simp [*]; (try simp (discharger := omega) only [wrap_i64, dec_t, dec_f]); (first | ((try (first | refine .inl ⟨?_, by omega, by omega⟩ | refine ⟨by omega, by omega, ?_⟩ | refine ⟨by omega, ?_⟩ | refine .inl ?_)); exact hO.out _ _ (.refl _) (St.le_refl _)) | ((first | refine Tri.call (IS.out _) ?_ | refine Tri.call (OV.out _ (by simp [own_ext, own_set, *]) (by simp [own_ext, own_set, *]) (by simp [own_ext, own_set, *])) ?_ | refine Tri.call (RO.out _) ?_); rintro _ _ ⟨rfl, h9⟩; replace h9 := h9.symm; subst h9; exact hO.out _ _ (.refl _) (St.le_refl _)) | exact .inr ⟨(IS.out _), hO.out _ _ (.refl _) (St.le_refl _)⟩ | exact .inl ⟨(IS.out _), hO.out _ _ (.refl _) (St.le_refl _)⟩ | exact ⟨_, (IS.out _), hO.out _ _ (.refl _) (St.le_refl _)⟩ | exact .inr ⟨(OV.out _ (by simp [own_ext, own_set, *]) (by simp [own_ext, own_set, *]) (by simp [own_ext, own_set, *])), hO.out _ _ (.refl _) (St.le_refl _)⟩ | exact .inl ⟨(OV.out _ (by simp [own_ext, own_set, *]) (by simp [own_ext, own_set, *]) (by simp [own_ext, own_set, *])), hO.out _ _ (.refl _) (St.le_refl _)⟩ | exact ⟨_, (OV.out _ (by simp [own_ext, own_set, *]) (by simp [own_ext, own_set, *]) (by simp [own_ext, own_set, *])), hO.out _ _ (.refl _) (St.le_refl _)⟩ | exact .inr ⟨(RO.out _), hO.out _ _ (.refl _) (St.le_refl _)⟩ | exact .inl ⟨(RO.out _), hO.out _ _ (.refl _) (St.le_refl _)⟩ | exact ⟨_, (RO.out _), hO.out _ _ (.refl _) (St.le_refl _)⟩))); (first | refine aput_some (by decide) ?_ | refine aput_none ?_)) | ((first | (refine dq_gF rfl rfl ?_ ?_; (focus (simp [*]; done))) | (refine dq_gU rfl rfl ?_ ?_; (focus (simp [*]; done)))); (first | refine aput_some (by decide) ?_ | refine aput_none ?_)) | refine dq_nil ?_ | refine dtail_none ?_ | refine dtail_some ?_ | refine dals_alloc rfl (by decide) (by simp; rfl) ?_ | refine dals_box rfl (by decide) (by simp [*]; rfl) ?_  | (refine dals_arrO rfl (by decide) (by first | rfl | simp) (by simp) (by intro σ'; simp [*]; exact IS.out _ σ') (by first | assumption | simp) ?_) | (refine dals_arrO rfl (by decide) (by first | rfl | simp) (by simp) (by intro σ'; simp [*]; exact OV.out _ (by simp [own_ext, own_set, *]) (by simp [own_ext, own_set, *]) (by simp [own_ext, own_set, *]) σ') (by first | assumption | simp) ?_) | (refine dals_arrO rfl (by decide) (by first | rfl | simp) (by simp) (by intro σ'; simp [*]; exact RO.out _ σ') (by first | assumption | simp) ?_) | refine dals_nil ?_ | refine dfin_nil ?_ | (refine dfin_cons rfl ?_; simp only [fresh_set, ne_eq, and_assoc]; intro b8 c8 hf8 hc8; (try subst hc8); (repeat (obtain ⟨_, hf8⟩ := hf8))) | (refine aops_idx rfl (fun K9 hO => ?_); simp [*]; (try simp (discharger := omega) only [wrap_i64, dec_t, dec_f]); (first | ((try (first | refine .inl ⟨by omega, by omega, ?_⟩ | refine ⟨by omega, by omega, ?_⟩ | refine ⟨by omega, ?_⟩ | refine .inl ?_)); (first | (intro b; intros; (try have hneA := ne_own (b := b) hown1 (by assumption)); (try have hneB := ne_own (b := b) hown2 (by assumption)); (try have hneC := ne_own (b := b) hown3 (by assumption)); refine hO.out _ _ ?_) | refine hO.out _ _ ?_)) | ((first | refine Tri.call (IS.out _) ?_ | refine Tri.call (OV.out _ (by simp [own_ext, own_set, *]) (by simp [own_ext, own_set, *]) (by simp [own_ext, own_set, *])) ?_ | refine Tri.call (RO.out _) ?_); (first | rintro _ _ ⟨rfl, h9⟩; replace h9 := h9.symm; subst h9 | rintro _ _ ⟨_, rfl, rfl⟩ | rintro _ _ ⟨_, _, rfl, rfl⟩ | rintro _ _ ⟨_, _, _, rfl, rfl⟩ | rintro _ τ9 ⟨rfl, h9⟩ | rintro _ τ9 ⟨x9, rfl, h9⟩ | rintro _ τ9 ⟨x9, y9, rfl, h9⟩); refine hO.out _ _ ?_)); clear hO; (try clear K9); (first | refine aput_some (by decide) ?_ | refine aput_none ?_)) | refine aops_end ?_ | ((repeat ((fail_if_success (refine hK.out _ _ ?_)); clear hK; (try clear hP EG); (try clear KS))); refine hK.out _ _ ?_; clear hK; (try clear hP EG); try clear KS)))
                refine' wlk0
              all_goals
                ((try simp [*]); (try simp (discharger := omega) only [wrap_i64, dec_t, dec_f]))
                exact .mk _ σ (.refl _) (HLR.out _) ⟨rfl, rfl⟩
            · have IS := Lib.hid (isT s s (by have := (NO.2 s k rfl).2; omega))
              have hii : isW s s = true := by simp [isW]
              rw [hii] at IS
              simp only [Stp.d] at IS
              simp only [stepD, refD, wD, Stp.d] at NX RX
              rcases NK s k rfl with rfl | rfl
              · repeat (first | ((first | refine aops_cons (fun K9 hO => ?_) | (refine aops_guardT rfl ?_ (fun K9 hO => ?_); (focus (simp [*]; done)))); simp [*]; (try simp (discharger := omega) only [wrap_i64, dec_t, dec_f]); (first | ((try (first | refine .inl ⟨by omega, by omega, ?_⟩ | refine ⟨by omega, by omega, ?_⟩ | refine ⟨by omega, ?_⟩ | refine .inl ?_)); (first | (intro b; intros; (try have hneA := ne_own (b := b) hown1 (by assumption)); (try have hneB := ne_own (b := b) hown2 (by assumption)); (try have hneC := ne_own (b := b) hown3 (by assumption)); refine hO.out _ _ ?_) | refine hO.out _ _ ?_)) | ((first | refine Tri.call (AT1.out _) ?_ | refine Tri.call (NX.out) ?_); (first | rintro _ _ ⟨rfl, h9⟩; replace h9 := h9.symm; subst h9 | rintro _ _ ⟨_, rfl, rfl⟩ | rintro _ _ ⟨_, _, rfl, rfl⟩ | rintro _ _ ⟨_, _, _, rfl, rfl⟩ | rintro _ τ9 ⟨rfl, h9⟩ | rintro _ τ9 ⟨x9, rfl, h9⟩ | rintro _ τ9 ⟨x9, y9, rfl, h9⟩); refine hO.out _ _ ?_)); clear hO; (try clear K9); (first | refine aput_some (by decide) ?_ | refine aput_none ?_)) | refine aops_nil ?_ | refine aseq_normal ?_ | refine aseq_ret ?_ | refine aseq_exit ?_ | refine ablock_normal ?_ | refine ablock_ret ?_ | refine ablock_same ?_ | refine ablock_other (by decide) ?_ | ((repeat ((fail_if_success (refine hK.out _ _ ?_)); clear hK; (try clear hP EG); (try clear KS))); refine hK.out _ _ ?_; clear hK; (try clear hP EG); try clear KS) | refine awp_seq (fun KS hK => ?_) | refine awp_region (fun KS EG hK hP => ?_) | refine awp_block ?_ | refine awp_skip ?_ | refine awp_ret ?_ | refine awp_exit ?_ | (refine awp_condT ?_ ?_; (focus (simp [*]; done))) | (refine awp_condF ?_ ?_; (focus (simp [*]; done))) | ((first | (refine aops_guardF rfl ?_ ?_; (focus (simp [*]; done))) | (refine aops_guardU rfl ?_ ?_; (focus (simp [*]; done)))); (first | refine aput_some (by decide) ?_ | refine aput_none ?_)))
                have p9 := h9.sle _ _ (own_same _ _ _)
                rw [refC] at p9
                have p5 := h9.sle _ _ (St.le_set (St.le_refl _) HF9.out _ _ HO5.out)
                have H9 := Lib.hid h9
                obtain ⟨bs, cap, ds, hS⟩ := h9
                have o1 := hS.box
                have o2 := hS.arr
                have o3 := hS.map
                have LV := Lib.hid hS.live
                have q1 := ((fresh_set _ _ _ _).1 hS.fb).1
                have q2 := ((fresh_set _ _ _ _).1 hS.fs).1
                have q3 := ((fresh_set _ _ _ _).1 hS.fm).1
                have q4 : ¬ b5 = b9 := fun e => (ne_own HO5.out HF9.out).1 e
                clear hS
                obtain ⟨b13, hb13⟩ : ∃ b13, b13 = b := ⟨_, rfl⟩
                subst hb13
                have f13 : Fresh τ9 b13 := by assumption
                have v1 := ne_own p9 f13
                have v2 := ne_own p5 f13
                have v3 := ne_own o1 f13
                have v4 := ne_own o2 f13
                have v5 := ne_own o3 f13
                refine' wlk1 RX.out
                rename_i b16 _ _ f16 w1 w2 _ _ f17 KS hK
                obtain ⟨b17, hb17⟩ : ∃ b17, b17 = b := ⟨_, rfl⟩
                subst hb17
                rw [set_over _ _ _ _ w2, set_over _ _ _ _ w1]
                have v6 := ne_own p9 f16
                have v7 := ne_own p5 f16
                have v8 := ne_own o1 f16
                have v9 := ne_own o2 f16
                have v10 := ne_own o3 f16
                have v11 := ne_own p9 f17
                have v12 := ne_own p5 f17
                have v13 := ne_own o1 f17
                have v14 := ne_own o2 f17
                have v15 := ne_own o3 f17
                have hlen' := len_wt 12 dep row'
                have OV := Lib.hid (fun (x : St) (k1 : x.own bw = some (.box 73 [.i dep, .b sug, .arr bs 3 cap 0 row'.length, .v (.map (some bm))])) (k2 : x.own bs = some (.arr 46 3 cap ds)) (k3 : x.own bm = some (.mp (cameE came'))) => overT x bw bs bm cap ds dep sug row' came' k1 k2 k3 LV.out (by omega))
                have RO := Lib.hid (fun σ => refOverT dep sug row' came' (by omega) (by omega) σ)
                simp only [wD] at RO
                obtain ⟨ov, hov⟩ : ∃ ov, ov = overW row' came' := ⟨_, rfl⟩
                rw [← hov] at OV RO
                clear hov
                have L9 : σ4.le τ9 := St.le_trans (St.le_set (St.le_refl _) HF9.out) H9.out.sle
                have HLR := Lib.hid (fun (x : Own) => St.le_trans HL4.out (St.le_set (x := some x) (St.le_set (x := some (.box 50 [.s s.room, .i s.depth, .lst false 1 (txtD s.via)])) (St.le_set (x := some (.box 35 (refC dep sug row' came'))) (St.le_set (x := some (.box 46 [.s s.room, .i s.depth, .lst false 1 (txtD s.via)])) L9 (Fresh.of_le L9 f13)) (Fresh.of_le L9 f16)) (Fresh.of_le L9 f17)) HF9.out))
                refine' wlk0
                cases ov
                all_goals
                  (refine awp_draw (fun KS EG hK hP => ?_); refine draw_rule rfl [(0, true), (1, true), (2, true), (3, true), (4, true), (5, true), (6, true), (7, true), (8, true), (9, false), (10, false), (11, false), (12, true), (13, true), (14, true), (15, true), (16, false), (17, false), (18, false), (19, true), (20, true)] [] [] (by kernel_rfl) ?_; repeat (first | ((first | refine dq_pu rfl ?_ | refine dq_rd rfl ?_ | (refine dq_gTp rfl rfl ?_ ?_; (focus (simp [*]; done))) | (refine dq_gTr rfl rfl ?_ ?_; (focus (simp [*]; done)))); constructor; refine And.intro (fun _ _ hO => ?_) ?_; (focus (simp [*]; (try simp (discharger := omega) only [wrap_i64, dec_t, dec_f]); (first | ((try (first | refine .inl ⟨?_, by omega, by omega⟩ | refine ⟨by omega, by omega, ?_⟩ | refine ⟨by omega, ?_⟩ | refine .inl ?_)); exact hO.out _ _ (.refl _) (St.le_refl _)) | ((first | refine Tri.call (IS.out _) ?_ | refine Tri.call (OV.out _ (by simp [own_ext, own_set, *]) (by simp [own_ext, own_set, *]) (by simp [own_ext, own_set, *])) ?_ | refine Tri.call (RO.out _) ?_); rintro _ _ ⟨rfl, h9⟩; replace h9 := h9.symm; subst h9; exact hO.out _ _ (.refl _) (St.le_refl _)) | exact .inr ⟨(IS.out _), hO.out _ _ (.refl _) (St.le_refl _)⟩ | exact .inl ⟨(IS.out _), hO.out _ _ (.refl _) (St.le_refl _)⟩ | exact ⟨_, (IS.out _), hO.out _ _ (.refl _) (St.le_refl _)⟩ | exact .inr ⟨(OV.out _ (by simp [own_ext, own_set, *]) (by simp [own_ext, own_set, *]) (by simp [own_ext, own_set, *])), hO.out _ _ (.refl _) (St.le_refl _)⟩ | exact .inl ⟨(OV.out _ (by simp [own_ext, own_set, *]) (by simp [own_ext, own_set, *]) (by simp [own_ext, own_set, *])), hO.out _ _ (.refl _) (St.le_refl _)⟩ | exact ⟨_, (OV.out _ (by simp [own_ext, own_set, *]) (by simp [own_ext, own_set, *]) (by simp [own_ext, own_set, *])), hO.out _ _ (.refl _) (St.le_refl _)⟩ | exact .inr ⟨(RO.out _), hO.out _ _ (.refl _) (St.le_refl _)⟩ | exact .inl ⟨(RO.out _), hO.out _ _ (.refl _) (St.le_refl _)⟩ | exact ⟨_, (RO.out _), hO.out _ _ (.refl _) (St.le_refl _)⟩))); (first | refine aput_some (by decide) ?_ | refine aput_none ?_)) | ((first | (refine dq_gF rfl rfl ?_ ?_; (focus (simp [*]; done))) | (refine dq_gU rfl rfl ?_ ?_; (focus (simp [*]; done)))); (first | refine aput_some (by decide) ?_ | refine aput_none ?_)) | refine dq_nil ?_ | refine dtail_none ?_ | refine dtail_some ?_ | refine dals_alloc rfl (by decide) (by simp; rfl) ?_ | refine dals_box rfl (by decide) (by simp [*]; rfl) ?_  | (refine dals_arrO rfl (by decide) (by first | rfl | simp) (by simp) (by intro σ'; simp [*]; exact IS.out _ σ') (by first | assumption | simp) ?_) | (refine dals_arrO rfl (by decide) (by first | rfl | simp) (by simp) (by intro σ'; simp [*]; exact OV.out _ (by simp [own_ext, own_set, *]) (by simp [own_ext, own_set, *]) (by simp [own_ext, own_set, *]) σ') (by first | assumption | simp) ?_) | (refine dals_arrO rfl (by decide) (by first | rfl | simp) (by simp) (by intro σ'; simp [*]; exact RO.out _ σ') (by first | assumption | simp) ?_) | refine dals_nil ?_ | refine dfin_nil ?_ | (refine dfin_cons rfl ?_; simp only [fresh_set, ne_eq, and_assoc]; intro b8 c8 hf8 hc8; (try subst hc8); (repeat (obtain ⟨_, hf8⟩ := hf8))) | (refine aops_idx rfl (fun K9 hO => ?_); simp [*]; (try simp (discharger := omega) only [wrap_i64, dec_t, dec_f]); (first | ((try (first | refine .inl ⟨by omega, by omega, ?_⟩ | refine ⟨by omega, by omega, ?_⟩ | refine ⟨by omega, ?_⟩ | refine .inl ?_)); (first | (intro b; intros; (try have hneA := ne_own (b := b) hown1 (by assumption)); (try have hneB := ne_own (b := b) hown2 (by assumption)); (try have hneC := ne_own (b := b) hown3 (by assumption)); refine hO.out _ _ ?_) | refine hO.out _ _ ?_)) | ((first | refine Tri.call (IS.out _) ?_ | refine Tri.call (OV.out _ (by simp [own_ext, own_set, *]) (by simp [own_ext, own_set, *]) (by simp [own_ext, own_set, *])) ?_ | refine Tri.call (RO.out _) ?_); (first | rintro _ _ ⟨rfl, h9⟩; replace h9 := h9.symm; subst h9 | rintro _ _ ⟨_, rfl, rfl⟩ | rintro _ _ ⟨_, _, rfl, rfl⟩ | rintro _ _ ⟨_, _, _, rfl, rfl⟩ | rintro _ τ9 ⟨rfl, h9⟩ | rintro _ τ9 ⟨x9, rfl, h9⟩ | rintro _ τ9 ⟨x9, y9, rfl, h9⟩); refine hO.out _ _ ?_)); clear hO; (try clear K9); (first | refine aput_some (by decide) ?_ | refine aput_none ?_)) | refine aops_end ?_ | ((repeat ((fail_if_success (refine hK.out _ _ ?_)); clear hK; (try clear hP EG); (try clear KS))); refine hK.out _ _ ?_; clear hK; (try clear hP EG); try clear KS)))
                  refine' wlk0
                all_goals
                  refine hL.out _ _ (.less _ (St.set_le (St.le_set (St.le_set (St.le_set (St.le_refl _) f13) f16) f17)) (.same ⟨mixT, ⟨n + 1, row', came', H9.out.grow HF9.out _, NO.1, by omega, ?_, by omega⟩, ?_⟩))
                  · simp [*]
                  · simp [*, D.int]; omega
              · repeat (first | ((first | refine aops_cons (fun K9 hO => ?_) | (refine aops_guardT rfl ?_ (fun K9 hO => ?_); (focus (simp [*]; done)))); simp [*]; (try simp (discharger := omega) only [wrap_i64, dec_t, dec_f]); (first | ((try (first | refine .inl ⟨by omega, by omega, ?_⟩ | refine ⟨by omega, by omega, ?_⟩ | refine ⟨by omega, ?_⟩ | refine .inl ?_)); (first | (intro b; intros; (try have hneA := ne_own (b := b) hown1 (by assumption)); (try have hneB := ne_own (b := b) hown2 (by assumption)); (try have hneC := ne_own (b := b) hown3 (by assumption)); refine hO.out _ _ ?_) | refine hO.out _ _ ?_)) | ((first | refine Tri.call (AT1.out _) ?_ | refine Tri.call (NX.out) ?_); (first | rintro _ _ ⟨rfl, h9⟩; replace h9 := h9.symm; subst h9 | rintro _ _ ⟨_, rfl, rfl⟩ | rintro _ _ ⟨_, _, rfl, rfl⟩ | rintro _ _ ⟨_, _, _, rfl, rfl⟩ | rintro _ τ9 ⟨rfl, h9⟩ | rintro _ τ9 ⟨x9, rfl, h9⟩ | rintro _ τ9 ⟨x9, y9, rfl, h9⟩); refine hO.out _ _ ?_)); clear hO; (try clear K9); (first | refine aput_some (by decide) ?_ | refine aput_none ?_)) | refine aops_nil ?_ | refine aseq_normal ?_ | refine aseq_ret ?_ | refine aseq_exit ?_ | refine ablock_normal ?_ | refine ablock_ret ?_ | refine ablock_same ?_ | refine ablock_other (by decide) ?_ | ((repeat ((fail_if_success (refine hK.out _ _ ?_)); clear hK; (try clear hP EG); (try clear KS))); refine hK.out _ _ ?_; clear hK; (try clear hP EG); try clear KS) | refine awp_seq (fun KS hK => ?_) | refine awp_region (fun KS EG hK hP => ?_) | refine awp_block ?_ | refine awp_skip ?_ | refine awp_ret ?_ | refine awp_exit ?_ | (refine awp_condT ?_ ?_; (focus (simp [*]; done))) | (refine awp_condF ?_ ?_; (focus (simp [*]; done))) | ((first | (refine aops_guardF rfl ?_ ?_; (focus (simp [*]; done))) | (refine aops_guardU rfl ?_ ?_; (focus (simp [*]; done)))); (first | refine aput_some (by decide) ?_ | refine aput_none ?_)))
                have p9 := h9.sle _ _ (own_same _ _ _)
                rw [refC] at p9
                have p5 := h9.sle _ _ (St.le_set (St.le_refl _) HF9.out _ _ HO5.out)
                have H9 := Lib.hid h9
                obtain ⟨bs, cap, ds, hS⟩ := h9
                have o1 := hS.box
                have o2 := hS.arr
                have o3 := hS.map
                have LV := Lib.hid hS.live
                have q1 := ((fresh_set _ _ _ _).1 hS.fb).1
                have q2 := ((fresh_set _ _ _ _).1 hS.fs).1
                have q3 := ((fresh_set _ _ _ _).1 hS.fm).1
                have q4 : ¬ b5 = b9 := fun e => (ne_own HO5.out HF9.out).1 e
                clear hS
                obtain ⟨b13, hb13⟩ : ∃ b13, b13 = b := ⟨_, rfl⟩
                subst hb13
                have f13 : Fresh τ9 b13 := by assumption
                have v1 := ne_own p9 f13
                have v2 := ne_own p5 f13
                have v3 := ne_own o1 f13
                have v4 := ne_own o2 f13
                have v5 := ne_own o3 f13
                refine' wlk1 RX.out
                rename_i b16 _ _ f16 w1 w2 _ _ f17 KS hK
                obtain ⟨b17, hb17⟩ : ∃ b17, b17 = b := ⟨_, rfl⟩
                subst hb17
                rw [set_over _ _ _ _ w2, set_over _ _ _ _ w1]
                have v6 := ne_own p9 f16
                have v7 := ne_own p5 f16
                have v8 := ne_own o1 f16
                have v9 := ne_own o2 f16
                have v10 := ne_own o3 f16
                have v11 := ne_own p9 f17
                have v12 := ne_own p5 f17
                have v13 := ne_own o1 f17
                have v14 := ne_own o2 f17
                have v15 := ne_own o3 f17
                have hlen' := len_wt 12 dep row'
                have OV := Lib.hid (fun (x : St) (k1 : x.own bw = some (.box 73 [.i dep, .b sug, .arr bs 3 cap 0 row'.length, .v (.map (some bm))])) (k2 : x.own bs = some (.arr 46 3 cap ds)) (k3 : x.own bm = some (.mp (cameE came'))) => overT x bw bs bm cap ds dep sug row' came' k1 k2 k3 LV.out (by omega))
                have RO := Lib.hid (fun σ => refOverT dep sug row' came' (by omega) (by omega) σ)
                simp only [wD] at RO
                obtain ⟨ov, hov⟩ : ∃ ov, ov = overW row' came' := ⟨_, rfl⟩
                rw [← hov] at OV RO
                clear hov
                have L9 : σ4.le τ9 := St.le_trans (St.le_set (St.le_refl _) HF9.out) H9.out.sle
                have HLR := Lib.hid (fun (x : Own) => St.le_trans HL4.out (St.le_set (x := some x) (St.le_set (x := some (.box 50 [.s s.room, .i s.depth, .lst false 1 (txtD s.via)])) (St.le_set (x := some (.box 35 (refC dep sug row' came'))) (St.le_set (x := some (.box 46 [.s s.room, .i s.depth, .lst false 1 (txtD s.via)])) L9 (Fresh.of_le L9 f13)) (Fresh.of_le L9 f16)) (Fresh.of_le L9 f17)) HF9.out))
                refine' wlk0
                cases ov
                all_goals
                  (refine awp_draw (fun KS EG hK hP => ?_); refine draw_rule rfl [(0, true), (1, true), (2, true), (3, true), (4, true), (5, true), (6, true), (7, true), (8, true), (9, false), (10, false), (11, false), (12, true), (13, true), (14, true), (15, true), (16, false), (17, false), (18, false), (19, true), (20, true)] [] [] (by kernel_rfl) ?_; repeat (first | ((first | refine dq_pu rfl ?_ | refine dq_rd rfl ?_ | (refine dq_gTp rfl rfl ?_ ?_; (focus (simp [*]; done))) | (refine dq_gTr rfl rfl ?_ ?_; (focus (simp [*]; done)))); constructor; refine And.intro (fun _ _ hO => ?_) ?_; (focus (simp [*]; (try simp (discharger := omega) only [wrap_i64, dec_t, dec_f]); (first | ((try (first | refine .inl ⟨?_, by omega, by omega⟩ | refine ⟨by omega, by omega, ?_⟩ | refine ⟨by omega, ?_⟩ | refine .inl ?_)); exact hO.out _ _ (.refl _) (St.le_refl _)) | ((first | refine Tri.call (IS.out _) ?_ | refine Tri.call (OV.out _ (by simp [own_ext, own_set, *]) (by simp [own_ext, own_set, *]) (by simp [own_ext, own_set, *])) ?_ | refine Tri.call (RO.out _) ?_); rintro _ _ ⟨rfl, h9⟩; replace h9 := h9.symm; subst h9; exact hO.out _ _ (.refl _) (St.le_refl _)) | exact .inr ⟨(IS.out _), hO.out _ _ (.refl _) (St.le_refl _)⟩ | exact .inl ⟨(IS.out _), hO.out _ _ (.refl _) (St.le_refl _)⟩ | exact ⟨_, (IS.out _), hO.out _ _ (.refl _) (St.le_refl _)⟩ | exact .inr ⟨(OV.out _ (by simp [own_ext, own_set, *]) (by simp [own_ext, own_set, *]) (by simp [own_ext, own_set, *])), hO.out _ _ (.refl _) (St.le_refl _)⟩ | exact .inl ⟨(OV.out _ (by simp [own_ext, own_set, *]) (by simp [own_ext, own_set, *]) (by simp [own_ext, own_set, *])), hO.out _ _ (.refl _) (St.le_refl _)⟩ | exact ⟨_, (OV.out _ (by simp [own_ext, own_set, *]) (by simp [own_ext, own_set, *]) (by simp [own_ext, own_set, *])), hO.out _ _ (.refl _) (St.le_refl _)⟩ | exact .inr ⟨(RO.out _), hO.out _ _ (.refl _) (St.le_refl _)⟩ | exact .inl ⟨(RO.out _), hO.out _ _ (.refl _) (St.le_refl _)⟩ | exact ⟨_, (RO.out _), hO.out _ _ (.refl _) (St.le_refl _)⟩))); (first | refine aput_some (by decide) ?_ | refine aput_none ?_)) | ((first | (refine dq_gF rfl rfl ?_ ?_; (focus (simp [*]; done))) | (refine dq_gU rfl rfl ?_ ?_; (focus (simp [*]; done)))); (first | refine aput_some (by decide) ?_ | refine aput_none ?_)) | refine dq_nil ?_ | refine dtail_none ?_ | refine dtail_some ?_ | refine dals_alloc rfl (by decide) (by simp; rfl) ?_ | refine dals_box rfl (by decide) (by simp [*]; rfl) ?_  | (refine dals_arrO rfl (by decide) (by first | rfl | simp) (by simp) (by intro σ'; simp [*]; exact IS.out _ σ') (by first | assumption | simp) ?_) | (refine dals_arrO rfl (by decide) (by first | rfl | simp) (by simp) (by intro σ'; simp [*]; exact OV.out _ (by simp [own_ext, own_set, *]) (by simp [own_ext, own_set, *]) (by simp [own_ext, own_set, *]) σ') (by first | assumption | simp) ?_) | (refine dals_arrO rfl (by decide) (by first | rfl | simp) (by simp) (by intro σ'; simp [*]; exact RO.out _ σ') (by first | assumption | simp) ?_) | refine dals_nil ?_ | refine dfin_nil ?_ | (refine dfin_cons rfl ?_; simp only [fresh_set, ne_eq, and_assoc]; intro b8 c8 hf8 hc8; (try subst hc8); (repeat (obtain ⟨_, hf8⟩ := hf8))) | (refine aops_idx rfl (fun K9 hO => ?_); simp [*]; (try simp (discharger := omega) only [wrap_i64, dec_t, dec_f]); (first | ((try (first | refine .inl ⟨by omega, by omega, ?_⟩ | refine ⟨by omega, by omega, ?_⟩ | refine ⟨by omega, ?_⟩ | refine .inl ?_)); (first | (intro b; intros; (try have hneA := ne_own (b := b) hown1 (by assumption)); (try have hneB := ne_own (b := b) hown2 (by assumption)); (try have hneC := ne_own (b := b) hown3 (by assumption)); refine hO.out _ _ ?_) | refine hO.out _ _ ?_)) | ((first | refine Tri.call (IS.out _) ?_ | refine Tri.call (OV.out _ (by simp [own_ext, own_set, *]) (by simp [own_ext, own_set, *]) (by simp [own_ext, own_set, *])) ?_ | refine Tri.call (RO.out _) ?_); (first | rintro _ _ ⟨rfl, h9⟩; replace h9 := h9.symm; subst h9 | rintro _ _ ⟨_, rfl, rfl⟩ | rintro _ _ ⟨_, _, rfl, rfl⟩ | rintro _ _ ⟨_, _, _, rfl, rfl⟩ | rintro _ τ9 ⟨rfl, h9⟩ | rintro _ τ9 ⟨x9, rfl, h9⟩ | rintro _ τ9 ⟨x9, y9, rfl, h9⟩); refine hO.out _ _ ?_)); clear hO; (try clear K9); (first | refine aput_some (by decide) ?_ | refine aput_none ?_)) | refine aops_end ?_ | ((repeat ((fail_if_success (refine hK.out _ _ ?_)); clear hK; (try clear hP EG); (try clear KS))); refine hK.out _ _ ?_; clear hK; (try clear hP EG); try clear KS)))
                  refine' wlk0
                all_goals
                  refine hL.out _ _ (.less _ (St.set_le (St.le_set (St.le_set (St.le_set (St.le_refl _) f13) f16) f17)) (.same ⟨mixT, ⟨n + 1, row', came', H9.out.grow HF9.out _, NO.1, by omega, ?_, by omega⟩, ?_⟩))
                  · simp [*]
                  · simp [*, D.int]; omega
        · refine' wlk0
          ((try simp [*]); (try simp (discharger := omega) only [wrap_i64, dec_t, dec_f]))
          exact .mk _ σ (.refl _) HFIN.out ⟨rfl, rfl⟩
    · have hP : allP (askA l) root dep sug 12 = [] := if_neg hok
      have hN : ∃ fn cd, (∀ σ, NewR root dep sug σ = fun d τ => d = .tup [.v (.pointer none), faultD (-1) fn cd] ∧ τ = σ) ∧ (∀ σ, RefNewR root dep sug σ = fun d τ => d = .tup [wD 0 false [] [], eD cd (slash ++ fn)] ∧ τ = σ) ∧ ¬ fn = ⟨#[]⟩ ∧ fn.size ≤ 100 ∧ ¬ cd = 0 := by
        cases hb : isB 1 root with
        | false => exact ⟨sRoomId, 7, fun σ => by funext d τ; unfold NewR; rw [hb, if_neg (by decide)], fun σ => by funext d τ; unfold RefNewR; rw [hb, if_neg (by decide)], by decide +kernel, by decide, by decide⟩
        | true =>
          have hd : ¬ (0 ≤ dep ∧ dep ≤ 10) := fun e => hok ⟨hb, e⟩
          exact ⟨sMaxDepth, 8, fun σ => by funext d τ; unfold NewR; rw [hb, if_pos rfl, if_neg hd], fun σ => by funext d τ; unfold RefNewR; rw [hb, if_pos rfl, if_neg hd], by decide +kernel, by decide, by decide⟩
      obtain ⟨fn, cd, hN, hN2, hfn, hfs, hcd⟩ := hN
      replace HN := Lib.hid (fun σ => hN σ ▸ HN.out σ)
      replace RN := Lib.hid (fun σ => hN2 σ ▸ RN.out σ)
      have TF := Lib.hid (fun σ => tellT (.fault (-1) fn (.code cd)) σ (by rw [tell_fault fn cd hfn, ByteArray.size_append, show slash.size = 1 from rfl]; omega))
      rw [told_fault fn cd hfn] at TF
      simp only [ErT.d, Er.d] at TF
      have EF := Lib.hid (show AggEq Tryd.prog 37 [.i cd, .i (-1), .s (slash ++ fn)] [.i cd, .i (-1), .s (slash ++ fn)] true from eqE_t ⟨cd, -1, slash ++ fn⟩)
      have WA := Lib.hid (walkAllT (askA l) 23 [.ptr [.lst false 3 (l.map RF.d)]] 12 hA1 (by decide) root dep sug (by omega))
      rw [hP] at WA
      simp only [faultD] at HN
      simp only [wD, eD] at RN
      obtain ⟨pth, hpth⟩ : ∃ pth, pth = slash ++ fn := ⟨_, rfl⟩
      rw [← hpth] at TF EF RN
      clear hN hN2 hP hok hA1 hA2 hpth hfn hfs TN EQ
      refine tri_fn Tryd.func3 rfl Tryd.ntmps3 Tryd.results3 (Nat.le_of_ble_eq_true rfl) ?_
      refine' wlk5 AW.out F1.out F2.out HN.out RN.out
      (refine awp_draw (fun KS EG hK hP => ?_); refine draw_rule rfl [(0, true), (1, false), (2, false), (3, true), (4, true), (5, true), (6, true), (7, true), (8, false), (9, true), (10, true), (11, true)] [] [] (by kernel_rfl) ?_; repeat (first | ((first | refine dq_pu rfl ?_ | refine dq_rd rfl ?_ | (refine dq_gTp rfl rfl ?_ ?_; (focus (simp [*]; done))) | (refine dq_gTr rfl rfl ?_ ?_; (focus (simp [*]; done)))); constructor; refine And.intro (fun _ _ hO => ?_) ?_; (focus (simp [*]; (try simp (discharger := omega) only [wrap_i64, dec_t, dec_f]); (first | ((try (first | refine .inl ⟨?_, by omega, by omega⟩ | refine ⟨by omega, by omega, ?_⟩ | refine ⟨by omega, ?_⟩ | refine .inl ?_)); exact hO.out _ _ (.refl _) (St.le_refl _)) | ((first | refine Tri.call (TF.out _) ?_ | refine Tri.call (EF.out) ?_); rintro _ _ ⟨rfl, h9⟩; replace h9 := h9.symm; subst h9; exact hO.out _ _ (.refl _) (St.le_refl _)) | exact .inr ⟨(TF.out _), hO.out _ _ (.refl _) (St.le_refl _)⟩ | exact .inl ⟨(TF.out _), hO.out _ _ (.refl _) (St.le_refl _)⟩ | exact ⟨_, (TF.out _), hO.out _ _ (.refl _) (St.le_refl _)⟩ | exact .inr ⟨(EF.out), hO.out _ _ (.refl _) (St.le_refl _)⟩ | exact .inl ⟨(EF.out), hO.out _ _ (.refl _) (St.le_refl _)⟩ | exact ⟨_, (EF.out), hO.out _ _ (.refl _) (St.le_refl _)⟩))); (first | refine aput_some (by decide) ?_ | refine aput_none ?_)) | ((first | (refine dq_gF rfl rfl ?_ ?_; (focus (simp [*]; done))) | (refine dq_gU rfl rfl ?_ ?_; (focus (simp [*]; done)))); (first | refine aput_some (by decide) ?_ | refine aput_none ?_)) | refine dq_nil ?_ | refine dtail_none ?_ | refine dtail_some ?_ | refine dals_alloc rfl (by decide) (by simp; rfl) ?_ | refine dals_box rfl (by decide) (by simp [*]; rfl) ?_  | (refine dals_arrO rfl (by decide) (by first | rfl | simp) (by simp) (by intro σ'; simp [*]; exact TF.out _ σ') (by first | assumption | simp) ?_) | (refine dals_arrO rfl (by decide) (by first | rfl | simp) (by simp) (by intro σ'; simp [*]; exact EF.out σ') (by first | assumption | simp) ?_) | refine dals_nil ?_ | refine dfin_nil ?_ | (refine dfin_cons rfl ?_; simp only [fresh_set, ne_eq, and_assoc]; intro b8 c8 hf8 hc8; (try subst hc8); (repeat (obtain ⟨_, hf8⟩ := hf8))) | (refine aops_idx rfl (fun K9 hO => ?_); simp [*]; (try simp (discharger := omega) only [wrap_i64, dec_t, dec_f]); (first | ((try (first | refine .inl ⟨by omega, by omega, ?_⟩ | refine ⟨by omega, by omega, ?_⟩ | refine ⟨by omega, ?_⟩ | refine .inl ?_)); (first | (intro b; intros; (try have hneA := ne_own (b := b) hown1 (by assumption)); (try have hneB := ne_own (b := b) hown2 (by assumption)); (try have hneC := ne_own (b := b) hown3 (by assumption)); refine hO.out _ _ ?_) | refine hO.out _ _ ?_)) | ((first | refine Tri.call (TF.out _) ?_ | refine Tri.call (EF.out) ?_); (first | rintro _ _ ⟨rfl, h9⟩; replace h9 := h9.symm; subst h9 | rintro _ _ ⟨_, rfl, rfl⟩ | rintro _ _ ⟨_, _, rfl, rfl⟩ | rintro _ _ ⟨_, _, _, rfl, rfl⟩ | rintro _ τ9 ⟨rfl, h9⟩ | rintro _ τ9 ⟨x9, rfl, h9⟩ | rintro _ τ9 ⟨x9, y9, rfl, h9⟩); refine hO.out _ _ ?_)); clear hO; (try clear K9); (first | refine aput_some (by decide) ?_ | refine aput_none ?_)) | refine aops_end ?_ | ((repeat ((fail_if_success (refine hK.out _ _ ?_)); clear hK; (try clear hP EG); (try clear KS))); refine hK.out _ _ ?_; clear hK; (try clear hP EG); try clear KS)))
      refine' wlk0
      (refine awp_draw (fun KS EG hK hP => ?_); refine draw_rule rfl [(0, true), (1, false), (2, true), (3, false), (4, true), (5, false), (6, true), (7, false), (8, false), (9, false), (10, true), (11, true)] [] [] (by kernel_rfl) ?_; refine' dqs2 AT1.out WA.out)
      refine' wlk0
      ((try simp [*]); (try simp (discharger := omega) only [wrap_i64, dec_t, dec_f]))
      exact .mk _ σ (.refl _) leT ⟨rfl, rfl⟩
  · have hbad : ∀ b1 b2 : Bool, fewR l = b1 → fewR later = b2 → (¬ (b1 = true ∧ b2 = true) ∨ 150 < root.size) := fun b1 b2 e1 e2 => by
      by_cases hx : 150 < root.size
      · exact .inr hx
      · exact .inl (fun h => hgood ⟨⟨e1.trans h.1, e2.trans h.2⟩, hx⟩)
    clear hgood
    obtain ⟨b1, h1⟩ : ∃ b1, fewR l = b1 := ⟨_, rfl⟩
    obtain ⟨b2, h2⟩ : ∃ b2, fewR later = b2 := ⟨_, rfl⟩
    replace hbad := hbad b1 b2 h1 h2
    rw [h1] at F1
    rw [h2] at F2
    clear h1 h2
    cases b1
    · clear hbad
      refine tri_fn Tryd.func3 rfl Tryd.ntmps3 Tryd.results3 (Nat.le_of_ble_eq_true rfl) ?_
      refine' wlk2 AW.out F1.out
      ((try simp [*]); (try simp (discharger := omega) only [wrap_i64, dec_t, dec_f]))
      exact .mk _ σ (.refl _) leT ⟨rfl, rfl⟩
    · cases b2
      · clear hbad
        refine tri_fn Tryd.func3 rfl Tryd.ntmps3 Tryd.results3 (Nat.le_of_ble_eq_true rfl) ?_
        refine' wlk3 AW.out F1.out F2.out
        ((try simp [*]); (try simp (discharger := omega) only [wrap_i64, dec_t, dec_f]))
        exact .mk _ σ (.refl _) leT ⟨rfl, rfl⟩
      · have hbig : 150 < root.size := hbad.elim (fun h => absurd ⟨rfl, rfl⟩ h) id
        clear hbad
        refine tri_fn Tryd.func3 rfl Tryd.ntmps3 Tryd.results3 (Nat.le_of_ble_eq_true rfl) ?_
        refine' wlk3 AW.out F1.out F2.out
        ((try simp [*]); (try simp (discharger := omega) only [wrap_i64, dec_t, dec_f]))
        exact .mk _ σ (.refl _) leT ⟨rfl, rfl⟩
end Go.Proofs.YtcmingndbhldgaaDoor
/-
  What the rows' variables hold, as a walk wants it; a world that meets the condition.
-/
namespace Go.Proofs.YtcmingndbhldgaaDoor
open Go.RowKit
set_option maxRecDepth 100000
set_option linter.unusedVariables false
set_option linter.unusedSimpArgs false

theorem lay_et : Tryd.prog.globalNamed "errors.errorType" = some 0 := by kernel_rfl
theorem lay_rt : (Tryd.prog.cutTypes.find? (·.1 == "internal/reflectlite.rtype")).map (·.2) = some 121 := by kernel_rfl
theorem lay_one : ((List.range (272 - 100)).filter fun t => Tryd.prog.rowNamed t [101, 114, 114, 111, 114]) = [29] := by kernel_rfl
theorem lay_size : Tryd.prog.types.size = 272 - 100 := by kernel_rfl
theorem errT_of {W : World} (h : handlesMet Tryd.prog [("errors.errorType", Rows.laid_errors_errorType)] W) : ErrT W := by
  obtain ⟨name, u, ty, e1, e2, e3, e4, e5⟩ := h _ (List.mem_singleton.2 rfl)
  have en : name = [101, 114, 114, 111, 114] := (Option.some.inj e1).symm
  subst en
  obtain rfl := Option.some.inj (lay_rt.symm.trans e2)
  have hm : ty ∈ (List.range (272 - 100)).filter fun t => Tryd.prog.rowNamed t [101, 114, 114, 111, 114] := List.mem_filter.2 ⟨List.mem_range.2 (by rw [← lay_size]; exact e3), e4⟩
  rw [lay_one] at hm
  obtain rfl := List.mem_singleton.1 hm
  have hh : typeHandle Tryd.prog 29 = .pointer (some ⟨2, 29, none⟩) := by kernel_rfl
  rw [hh] at e5
  have := World.var?_cell lay_et e5 0
  simpa [ErrT] using this
/-- The plain tables among them. -/
def plainLaid : List (String × DataW Unit) := Rows.walkGoesRow.laid.filter fun x => x.2.handleName?.isNone
theorem maxLen_of {W : World} (h : W.ShapedOpen Tryd.prog) : SomeNum W 1 :=
  Go.Proofs.cell_of_shapedOpen_int (zero := #[.int .i64 0]) (t := 3) h (of_decide_eq_true (by kernel_rfl)) (by kernel_rfl) rfl (by kernel_rfl) (by kernel_rfl) Tryd.underlying3
theorem baseOk_of {W : World} (hsh : W.ShapedOpen Tryd.prog) (h : laidMetH Tryd.prog Rows.walkGoesRow.laid W) : BaseOk W := by
  have h' : laidMet Tryd.prog plainLaid W ∧ handlesMet Tryd.prog [("errors.errorType", Rows.laid_errors_errorType)] W := h
  exact ⟨maxLen_of hsh, errT_of h'.2, trivial⟩
/-- A world that meets the condition. -/
noncomputable def laidWorld (os : Os) : World :=
  { World.laidAll Tryd.prog os plainLaid with heap := (World.laidAll Tryd.prog os plainLaid).heap.modify 0 fun
      | .cells _ t frozen => .cells #[.iface 121 (.agg #[.pointer (some ⟨2, 29, none⟩)])] t frozen
      | o => o }
theorem laid_met (os : Os) (args : Array Value) : laidMetH Tryd.prog Rows.walkGoesRow.laid ((laidWorld os).forCall (fun _ _ => 0) ⟨#[], args, []⟩).memory :=
  laidMetH_of_parts (laidMet_of_run' 8 (by kernel_rfl) (by kernel_rfl)) (by kernel_rfl)
end Go.Proofs.YtcmingndbhldgaaDoor
/-
  Arguments of the law WalkGoes.
-/
namespace Go.Proofs.YtcmingndbhldgaaDoor
open Go.RowKit
set_option maxRecDepth 100000
set_option linter.unusedVariables false
set_option linter.unusedSimpArgs false

theorem walkGoesC (l later : List RF) (x : Way) (h0 : l.length * 48 ≤ reachBytes ∧ ∀ x ∈ l, (x.room.size ≤ reachBytes ∧ (-9223372036854775808 ≤ x.kind ∧ x.kind ≤ 9223372036854775807) ∧ (x.ch.length * 72 ≤ reachBytes ∧ ∀ a ∈ x.ch, (a.room.size ≤ reachBytes ∧ a.order.size ≤ reachBytes ∧ (a.via.length * 16 ≤ reachBytes ∧ ∀ b ∈ a.via, b.size ≤ reachBytes) ∧ (-9223372036854775808 ≤ a.ts ∧ a.ts ≤ 9223372036854775807))))) (h1 : later.length * 48 ≤ reachBytes ∧ ∀ x ∈ later, (x.room.size ≤ reachBytes ∧ (-9223372036854775808 ≤ x.kind ∧ x.kind ≤ 9223372036854775807) ∧ (x.ch.length * 72 ≤ reachBytes ∧ ∀ a ∈ x.ch, (a.room.size ≤ reachBytes ∧ a.order.size ≤ reachBytes ∧ (a.via.length * 16 ≤ reachBytes ∧ ∀ b ∈ a.via, b.size ≤ reachBytes) ∧ (-9223372036854775808 ≤ a.ts ∧ a.ts ≤ 9223372036854775807))))) (h2 : x.root.size ≤ reachBytes ∧ (-9223372036854775808 ≤ x.depth ∧ x.depth ≤ 9223372036854775807) ∧ (-9223372036854775808 ≤ x.fr ∧ x.fr ≤ 9223372036854775807)) (σ : St) : Tri Tryd.prog 3 [.lst false 3 (l.map RF.d), .lst false 3 (later.map RF.d), .agg x.d] σ fun d τ => d = .b true ∧ τ = σ :=
  walkGoesT l later (rf_ok h0) (rf_ok h1) x.root (by have := h2.1; rw [reach_num] at this; exact this) x.depth x.fr x.sug σ
end Go.Proofs.YtcmingndbhldgaaDoor
/-
  The card of the law WalkGoes: it holds for every input.
-/
namespace Go.Proofs.YtcmingndbhldgaaDoor.walkGoes
open Go.ChangeShapes Go.WideShapes Go.ChangeAt Go.RowKit
set_option maxRecDepth 100000
set_option linter.unusedVariables false
set_option linter.unusedSimpArgs false

theorem laid_eq : Rows.walkGoesRow.laid = Rows.walkGoesRow.laid := rfl
theorem reads (os : Os) {H : Type} (enc : TypeId × Value → H) : ∃ places, DataW.whole enc Tryd.prog ((laidWorld os).forCall (fun _ _ => 0) ⟨#[], #[.slice none 0 0, .slice none 0 0, .agg #[.string ByteArray.empty, .int .i64 0, .int .i64 0, .bool false]], []⟩).memory Tryd.f3.params.toList Rows.walkGoesSpec.vars false #[.slice none 0 0, .slice none 0 0, .agg #[.string ByteArray.empty, .int .i64 0, .int .i64 0, .bool false]].toList 8 = some ([.nil, .nil, .agg [.lit (.string []), .lit (.int .i64 0), .lit (.int .i64 0), .lit (.bool false)]], [], places) :=
  ⟨[], by kernel_rfl⟩
theorem contract (H : Type) (enc : TypeId × Value → H) (W : World) (base : Nat) (args : Array Value) (ds gs : List (DataW H)) (before : List MemPlace)
    (hval0 : ∀ (j : Nat) t v, Tryd.f3.params[j]? = some t → args[j]? = some v → Value.okWide Tryd.prog W .any base t v)
    (hW : DataW.Whole enc Tryd.prog Tryd.f3.params.toList Rows.walkGoesSpec.vars false W args.toList ds gs before)
    (hreach : (DataW.weightsEach Tryd.prog (Tryd.f3.params.toList ++ (OpenSpec.ofChange Rows.walkGoesSpec).bare.plain.varTypes Tryd.prog) (ds ++ gs)).all (· ≤ reachBytes) = true)
    (hLM : laidMetH Tryd.prog Rows.walkGoesRow.laid W) (hsh : W.ShapedOpen Tryd.prog) :
    Calls Tryd.prog 3 args W fun e W' => ∃ v, e = .returned v ∧ Rows.walkGoesSpec.post enc Tryd.prog Tryd.f3 false true false false W args v W' := by
  have hval : ∀ (j : Nat) t v, Tryd.f3.params[j]? = some t → args[j]? = some v → Value.okWide Tryd.prog W .any base t v := hval0
  have hW' := hW
  have hlt := hW.lt
  obtain ⟨p, q, hA0, hV, rfl, hfz, hnd⟩ := hW
  have hA : DataW.TrodAll enc Tryd.prog W 0 (fun _ => true) true Tryd.f3.params.toList args.toList ds p := hA0
  rw [Tryd.params3] at hA hval
  obtain ⟨v0, vs0, d0, ds0, p0, q0, hargs, rfl, rfl, h0, r0⟩ := trodAll_cons hA
  obtain ⟨v1, vs1, d1, ds1, p1, q1, rfl, rfl, rfl, h1, r1⟩ := trodAll_cons r0
  obtain ⟨v2, vs2, d2, ds2, p2, q2, rfl, rfl, rfl, h2, r2⟩ := trodAll_cons r1
  obtain ⟨rfl, rfl, rfl⟩ := trodAll_nil r2
  obtain rfl : args = #[v0, v1, v2] := by cases args; simp_all
  obtain ⟨rfl, rfl⟩ := trodVars_none hV
  obtain ⟨a0, o0, R0⟩ := argFs (hval 0 22 v0 rfl rfl) h0 (reached_arg hreach (j := 0) rfl rfl)
  obtain ⟨a1, o1, R1⟩ := argFs (hval 1 22 v1 rfl rfl) h1 (reached_arg hreach (j := 1) rfl rfl)
  obtain ⟨a2, o2, R2⟩ := argWay (hval 2 24 v2 rfl rfl) h2 (reached_arg hreach (j := 2) rfl rfl)
  have C := walkGoesC a0 a1 a2 o0 o1 o2 .none W W (Gh.of W) _ (Sim.start W (baseOk_of hsh hLM)) ((((RepL.nil _).cons R2).cons R1).cons R0)
  clear hA0 hval0
  refine C.mono fun e W' ⟨σ', G', _, hS, h4⟩ => ?_
  obtain ⟨v, d, he, hr, hd, _⟩ | ⟨_, _, hd⟩ := h4
  case inr => exact hd.elim
  subst hd
  obtain rfl : v = .bool true := hr.v_inv
  subst he
  have hg : Below W.heap.size W W' := hS.below
  have hin0 : ∀ p ∈ p0, p.block < W.heap.size := fun p hp => hlt p (by simp [hp])
  have hin1 : ∀ p ∈ p1, p.block < W.heap.size := fun p hp => hlt p (by simp [hp])
  have hin2 : ∀ p ∈ p2, p.block < W.heap.size := fun p hp => hlt p (by simp [hp])
  exact ⟨_, rfl, post_of_below (pv := []) hW' (fun _ _ _ => (trodAll_cons_mk (shut_bool Tryd.underlying4 _) trodAll_mk0))
    (fun sp hsp => (trodAll_cons_mk (WideElems.Trod_stays laidOut (by kernel_rfl) (of_decide_eq_true (by kernel_rfl)) h0 (fun p hp => below_sameAt hg (hin0 p hp)) (fun p hp => hsp p (by simp [hp]))) (trodAll_cons_mk (WideElems.Trod_stays laidOut (by kernel_rfl) (of_decide_eq_true (by kernel_rfl)) h1 (fun p hp => below_sameAt hg (hin1 p hp)) (fun p hp => hsp p (by simp [hp]))) (trodAll_cons_mk (WideElems.Trod_stays laidOut (by kernel_rfl) (of_decide_eq_true (by kernel_rfl)) h2 (fun p hp => below_sameAt hg (hin2 p hp)) (fun p hp => hsp p (by simp [hp]))) trodAll_mk0)))) (fun _ _ => rfl) rfl
    hg (ok_one (by kernel_rfl) rfl (okWide_bool_mk Tryd.underlying4 _))⟩

theorem lifted (os : Os) (started : os.Started) (H : Type) (enc : TypeId × Value → H) (F : Stop.Interp) :
    ReturnsInHanded {} Tryd.checked os 3 .any ((OpenSpec.ofChange Rows.walkGoesSpec).preRow enc Tryd.prog Tryd.f3 Rows.walkGoesRow.domain false Rows.walkGoesRow.laid) (((OpenSpec.ofChange Rows.walkGoesSpec).at F).post enc Tryd.prog Tryd.f3 false true false false) := by
  obtain ⟨places, hx⟩ := reads os enc
  refine returnsInHanded_of_row (C := Tryd.checked) (s := OpenSpec.ofChange Rows.walkGoesSpec) own started (by kernel_rfl) Tryd.func3
    (witness_row_at (enc := enc) (C := Tryd.checked) false (laidWorld os) #[.slice none 0 0, .slice none 0 0, .agg #[.string ByteArray.empty, .int .i64 0, .int .i64 0, .bool false]] rfl (by kernel_rfl) (by kernel_rfl) (by kernel_rfl)
      (OpenSpec.preRow_of_cond 8 hx (by kernel_rfl) (fun k hk => by cases hk) (by kernel_rfl) (laid_met os _))) ?_
  intro W base args ds gs before hval hW _ _ hreach hL hsh _
  exact contract H enc W base args ds gs before hval hW hreach hL hsh

theorem said : Rows.WalkGoesSaid :=
  OpenClaim.holds_of_cond 3 Tryd.f3 rfl rfl rfl rfl rfl rfl rfl ⟨rfl, rfl, rfl, rfl, rfl⟩ rfl rfl rfl rfl rfl (by kernel_rfl) Tryd.func3 (by kernel_rfl)
    (of_decide_eq_true (by kernel_rfl)) (by unfold Func.isWrapper; first | (rw [if_pos (by decide +kernel)]; kernel_rfl) | (rw [if_neg (by decide +kernel)]; exact ⟨rfl, rfl⟩))
    (fun os started H enc _ F => by rw [OpenClaim.pre_eq_preRow]; exact lifted os started H enc F)

theorem plain (f : FuncId) (fn : Func) (hf : Tryd.pinned.checked.prog.funcNamed "enfilade/enfiladelaw20.WalkGoes" = some f) (hfn : Tryd.pinned.checked.prog.funcs[f]? = some fn) :
    true = Tryd.pinned.checked.prog.looks [] ∧ ∀ (j : Nat) t, fn.params[j]? = some t → Tryd.pinned.checked.prog.wantsStandIn t = false := by
  obtain rfl : f = 3 := Option.some.inj ((show Tryd.prog.funcNamed "enfilade/enfiladelaw20.WalkGoes" = some 3 by kernel_rfl).symm.trans hf) |>.symm
  obtain rfl : fn = Tryd.f3 := (Option.some.inj (Tryd.func3.symm.trans hfn)).symm
  refine ⟨by kernel_rfl, fun j t ht => ?_⟩
  rw [Tryd.params3] at ht
  have h2 : t = 22 ∨ t = 24 := by simpa using Array.mem_of_getElem? ht
  rcases h2 with rfl | rfl
  · exact (show Tryd.prog.wantsStandIn 22 = false by kernel_rfl)
  · exact (show Tryd.prog.wantsStandIn 24 = false by kernel_rfl)

theorem proved : Rows.WalkGoesCardSaid :=
  Claim7.holds_tied_plain_at .later [] _ _ _ _ said (fun _ h => by cases h) (by kernel_rfl) (fun _ h => by cases h) walkGoes_row_tie rfl ⟨rfl, rfl⟩ (by kernel_rfl) rfl plain (by kernel_rfl)
#print axioms proved
end Go.Proofs.YtcmingndbhldgaaDoor.walkGoes
