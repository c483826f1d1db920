/-
  The card of the law ValueChecks: it holds for every input.
-/
import Derived.Test.YtmjendeigjdihaaDoorVc10
import Derived.Test.YtmjendeigjdihaaDoorVc5
import Derived.Deep.Slices
import Derived.Deep.Fields
import Derived.ChangeSame
import Derived.SizedLaws
import Derived.Test.YtmjendeigjdihaaDoorVc9
import Derived.Test.YtmjendeigjdihaaDoorRows
import Derived.Lib.LaidU8T
import Derived.PinnedBridge
import Derived.Lay
import Derived.LaidHandle
import Derived.LaidLaws
import Derived.ProofKit
import Derived.OpenShut
import Derived.Deep.DeepHandedRow
import Derived.SevenTiedAt
import Derived.Test.YtmjendeigjdihaaDoorVc1
import Derived.Test.YtmjendeigjdihaaDoorCards
import Derived.Test.YtmjendeigjdihaaDoorTie
/-
  Values (chapter 1): the laws ValueChecks, ValueSames.
-/
namespace Go.Proofs.YtmjendeigjdihaaDoor
open Go.RowKit
set_option maxRecDepth 100000
set_option linter.unusedVariables false
set_option linter.unusedSimpArgs false
attribute [local irreducible] awp aops aop aput aseq ablock TriX Tri Ret Fresh dq adraw dtail dals dfin Wk
attribute [local simp] ErT.d

set_option maxHeartbeats 8000000 in
theorem valueChecksT (v : V) (hv : v.ok) (σ : St) : Tri Tryd.prog 3 [.agg v.d] σ fun d τ => d = .b true ∧ τ = σ := by
  have AW := Lib.hid awakeT
  have FW := Lib.hid (fun σ => fewT v 300 σ hv)
  have RL := Lib.hid (fun σ => realT v σ hv)
  have CP := Lib.hid (fun σ => checkPT v σ hv)
  have TL := Lib.hid (fun σ => tellOT (v.chkP 0) σ (told_size v hv))
  rw [(v.told_chk 0).1] at TL
  have CR := Lib.hid (fun σ => checkRT v σ hv)
  have EQ := Lib.hid (eqE_t (v.chk 0))
  clear hv
  obtain ⟨dv, hdv⟩ : ∃ dv, dv = v.d := ⟨_, rfl⟩
  have hd6 : dv.length = 6 := hdv ▸ V.d_len v
  have ht6 : dv.take 6 = dv := List.take_of_length_le (by omega)
  obtain ⟨ep, hep⟩ : ∃ ep, ep = erD (v.chkP 0) := ⟨_, rfl⟩
  obtain ⟨er, her⟩ : ∃ er, er = v.chk 0 := ⟨_, rfl⟩
  rw [← her] at TL CR EQ
  rw [← hep] at TL CP
  rw [← hdv] at FW RL CP CR ⊢
  clear hdv hep her
  refine tri_fn Tryd.func3 rfl Tryd.ntmps3 Tryd.results3 (Nat.le_of_ble_eq_true rfl) ?_
  cases hf : v.few 300 with
  | false =>
    rw [hf] at FW
    refine' wlk2 AW.out FW.out
    ((try simp [*]); (try simp (discharger := omega) only [wrap_i64, dec_t, dec_f]))
    exact .mk _ σ (.refl _) leT ⟨rfl, rfl⟩
  | true =>
    rw [hf] at FW
    refine' wlk2 AW.out FW.out
    (refine awp_draw (fun KS EG hK hP => ?_); refine draw_rule rfl [(0, false), (1, false), (2, false), (3, false), (4, false), (5, false), (6, true), (7, true)] [] [] (by kernel_rfl) ?_; repeat (first | ((first | refine dq_pu rfl ?_ | refine dq_rd rfl ?_ | (refine dq_gTp rfl rfl ?_ ?_; (focus (simp [*]; done))) | (refine dq_gTr rfl rfl ?_ ?_; (focus (simp [*]; done)))); constructor; refine And.intro (fun _ _ hO => ?_) ?_; (focus (simp [*]; (try simp (discharger := omega) only [wrap_i64, dec_t, dec_f]); (first | ((try (first | refine .inl ⟨?_, by omega, by omega⟩ | refine ⟨by omega, by omega, ?_⟩ | refine ⟨by omega, ?_⟩ | refine .inl ?_)); exact hO.out _ _ (.refl _) (St.le_refl _)) | ((first | refine Tri.call (RL.out _) ?_ | refine Tri.call (CP.out _) ?_ | refine Tri.call (TL.out _) ?_ | refine Tri.call (CR.out _) ?_ | refine Tri.call (EQ.out) ?_); rintro _ _ ⟨rfl, h9⟩; replace h9 := h9.symm; subst h9; exact hO.out _ _ (.refl _) (St.le_refl _)) | exact .inr ⟨(RL.out _), hO.out _ _ (.refl _) (St.le_refl _)⟩ | exact .inl ⟨(RL.out _), hO.out _ _ (.refl _) (St.le_refl _)⟩ | exact ⟨_, (RL.out _), hO.out _ _ (.refl _) (St.le_refl _)⟩ | exact .inr ⟨(CP.out _), hO.out _ _ (.refl _) (St.le_refl _)⟩ | exact .inl ⟨(CP.out _), hO.out _ _ (.refl _) (St.le_refl _)⟩ | exact ⟨_, (CP.out _), hO.out _ _ (.refl _) (St.le_refl _)⟩ | exact .inr ⟨(TL.out _), hO.out _ _ (.refl _) (St.le_refl _)⟩ | exact .inl ⟨(TL.out _), hO.out _ _ (.refl _) (St.le_refl _)⟩ | exact ⟨_, (TL.out _), hO.out _ _ (.refl _) (St.le_refl _)⟩ | exact .inr ⟨(CR.out _), hO.out _ _ (.refl _) (St.le_refl _)⟩ | exact .inl ⟨(CR.out _), hO.out _ _ (.refl _) (St.le_refl _)⟩ | exact ⟨_, (CR.out _), hO.out _ _ (.refl _) (St.le_refl _)⟩ | exact .inr ⟨(EQ.out), hO.out _ _ (.refl _) (St.le_refl _)⟩ | exact .inl ⟨(EQ.out), hO.out _ _ (.refl _) (St.le_refl _)⟩ | exact ⟨_, (EQ.out), hO.out _ _ (.refl _) (St.le_refl _)⟩))); (first | refine aput_some (by decide) ?_ | refine aput_none ?_)) | ((first | (refine dq_gF rfl rfl ?_ ?_; (focus (simp [*]; done))) | (refine dq_gU rfl rfl ?_ ?_; (focus (simp [*]; done)))); (first | refine aput_some (by decide) ?_ | refine aput_none ?_)) | refine dq_nil ?_ | refine dtail_none ?_ | refine dtail_some ?_ | refine dals_alloc rfl (by decide) (by simp; rfl) ?_ | refine dals_box rfl (by decide) (by simp [*]; rfl) ?_  | (refine dals_arrO rfl (by decide) (by first | rfl | simp) (by simp) (by intro σ'; simp [*]; exact RL.out _ σ') (by first | assumption | simp) ?_) | (refine dals_arrO rfl (by decide) (by first | rfl | simp) (by simp) (by intro σ'; simp [*]; exact CP.out _ σ') (by first | assumption | simp) ?_) | (refine dals_arrO rfl (by decide) (by first | rfl | simp) (by simp) (by intro σ'; simp [*]; exact TL.out _ σ') (by first | assumption | simp) ?_) | (refine dals_arrO rfl (by decide) (by first | rfl | simp) (by simp) (by intro σ'; simp [*]; exact CR.out _ σ') (by first | assumption | simp) ?_) | (refine dals_arrO rfl (by decide) (by first | rfl | simp) (by simp) (by intro σ'; simp [*]; exact EQ.out σ') (by first | assumption | simp) ?_) | refine dals_nil ?_ | refine dfin_nil ?_ | (refine dfin_cons rfl ?_; simp only [fresh_set, ne_eq, and_assoc]; intro b8 c8 hf8 hc8; (try subst hc8); (repeat (obtain ⟨_, hf8⟩ := hf8))) | (refine aops_idx rfl (fun K9 hO => ?_); simp [*]; (try simp (discharger := omega) only [wrap_i64, dec_t, dec_f]); (first | ((try (first | refine .inl ⟨by omega, by omega, ?_⟩ | refine ⟨by omega, by omega, ?_⟩ | refine ⟨by omega, ?_⟩ | refine .inl ?_)); (first | (intro b; intros; refine hO.out _ _ ?_) | refine hO.out _ _ ?_)) | ((first | refine Tri.call (RL.out _) ?_ | refine Tri.call (CP.out _) ?_ | refine Tri.call (TL.out _) ?_ | refine Tri.call (CR.out _) ?_ | refine Tri.call (EQ.out) ?_); (first | rintro _ _ ⟨rfl, h9⟩; replace h9 := h9.symm; subst h9 | rintro _ _ ⟨_, rfl, rfl⟩ | rintro _ _ ⟨_, _, rfl, rfl⟩ | rintro _ _ ⟨_, _, _, rfl, rfl⟩); refine hO.out _ _ ?_)); clear hO; (try clear K9); (first | refine aput_some (by decide) ?_ | refine aput_none ?_)) | refine aops_end ?_ | ((repeat ((fail_if_success (refine hK.out _ _ ?_)); clear hK; (try clear hP EG); (try clear KS))); refine hK.out _ _ ?_; clear hK; (try clear hP EG); try clear KS)))
    refine' wlk0
    ((try simp [*]); (try simp (discharger := omega) only [wrap_i64, dec_t, dec_f]))
    exact .mk _ σ (.refl _) leT ⟨rfl, rfl⟩
theorem V.same_refl (v : V) : v.same v = true := by
  obtain ⟨N, hN⟩ : ∃ N, N = v.w := ⟨_, rfl⟩
  induction N using Nat.strongRecOn generalizing v with
  | _ N ih =>
    obtain ⟨k, y, i, t, l, m⟩ := v
    subst hN
    rw [V.w] at ih
    have hL : ∀ l' : List V, (∀ x ∈ l', x ∈ l) → V.sameL l' l' = true := by
      intro l'
      induction l' with
      | nil => intro _; rfl
      | cons x l' ihl =>
        intro hin
        rw [V.sameL, ih x.w (by have := V.ws_mem (hin x List.mem_cons_self); omega) x rfl, ihl fun z hz => hin z (List.mem_cons_of_mem _ hz)]
        rfl
    have hM : ∀ m' : List (ByteArray × V), (∀ x ∈ m', x ∈ m) → V.sameM m' m' = true := by
      intro m'
      induction m' with
      | nil => intro _; rfl
      | cons x m' ihm =>
        obtain ⟨k, x⟩ := x
        intro hin
        rw [V.sameM, ih x.w (by have := V.wm_mem (hin (k, x) List.mem_cons_self); simp only at this; omega) x rfl, ihm fun z hz => hin z (List.mem_cons_of_mem _ hz)]
        simp
    rw [V.same]
    simp only [hL l fun _ h => h, hM m fun _ h => h]
    simp
theorem V.same_comm (v u : V) : v.same u = u.same v := by
  obtain ⟨N, hN⟩ : ∃ N, N = v.w := ⟨_, rfl⟩
  induction N using Nat.strongRecOn generalizing v u with
  | _ N ih =>
    obtain ⟨k, y, i, t, l, m⟩ := v
    obtain ⟨k', y', i', t', l', m'⟩ := u
    subst hN
    rw [V.w] at ih
    have hL : ∀ a b : List V, (∀ x ∈ a, x ∈ l) → V.sameL a b = V.sameL b a := by
      intro a
      induction a with
      | nil => intro b _; cases b <;> rfl
      | cons x a ihl =>
        intro b hin
        cases b with
        | nil => rfl
        | cons z b => rw [V.sameL, V.sameL, ih x.w (by have := V.ws_mem (hin x List.mem_cons_self); omega) x z rfl, ihl b fun z hz => hin z (List.mem_cons_of_mem _ hz)]
    have hM : ∀ a b : List (ByteArray × V), (∀ x ∈ a, x ∈ m) → V.sameM a b = V.sameM b a := by
      intro a
      induction a with
      | nil => intro b _; cases b <;> rfl
      | cons x a ihm =>
        obtain ⟨k, x⟩ := x
        intro b hin
        cases b with
        | nil => rfl
        | cons z b =>
          obtain ⟨k', z⟩ := z
          rw [V.sameM, V.sameM, ih x.w (by have := V.wm_mem (hin (k, x) List.mem_cons_self); simp only at this; omega) x z rfl, ihm b fun z hz => hin z (List.mem_cons_of_mem _ hz)]
          simp only [eq_comm]
    rw [V.same, V.same]
    by_cases hk : k = k'
    · subst hk
      simp only [hL l l' fun _ h => h, hM m m' fun _ h => h, eq_comm (a := i), eq_comm (a := t), Bool.beq_comm (a := y)]
    · rw [if_pos hk, if_pos (fun e => hk e.symm)]
set_option maxHeartbeats 8000000 in
theorem valueSamesT (v u : V) (hv : v.ok) (hu : u.ok) (σ : St) : Tri Tryd.prog 7 [.agg v.d, .agg u.d] σ fun d τ => d = .b true ∧ τ = σ := by
  have AW := Lib.hid awakeT
  have FW := Lib.hid (fun σ => fewT v 300 σ hv)
  have FU := Lib.hid (fun σ => fewT u 300 σ hu)
  have RV := Lib.hid (fun σ => realT v σ hv)
  have RU := Lib.hid (fun σ => realT u σ hu)
  have S1 := Lib.hid (fun σ => samePT v u σ hv hu)
  have S2 := Lib.hid (fun σ => sameRT v u σ hv hu)
  have S3 := Lib.hid (fun σ => samePT u v σ hu hv)
  have S4 := Lib.hid (fun σ => samePT v v σ hv hv)
  have CV := Lib.hid (fun σ => copyT v σ hv)
  rw [V.same_refl] at S4
  rw [V.same_comm u v] at S3
  clear hv hu
  obtain ⟨sm, hsm⟩ : ∃ sm, sm = v.same u := ⟨_, rfl⟩
  rw [← hsm] at S1 S2 S3
  clear hsm
  obtain ⟨dv, hdv⟩ : ∃ dv, dv = v.d := ⟨_, rfl⟩
  have hd6 : dv.length = 6 := hdv ▸ V.d_len v
  have ht6 : dv.take 6 = dv := List.take_of_length_le (by omega)
  have hp6 : dv.drop 6 = [] := List.drop_eq_nil_of_le (by omega)
  obtain ⟨du, hdu⟩ : ∃ du, du = u.d := ⟨_, rfl⟩
  have hu6 : du.length = 6 := hdu ▸ V.d_len u
  have hv6 : du.take 6 = du := List.take_of_length_le (by omega)
  have hq6 : du.drop 6 = [] := List.drop_eq_nil_of_le (by omega)
  rw [← hdv] at FW RV S1 S2 S3 S4 CV ⊢
  rw [← hdu] at FU RU S1 S2 S3 ⊢
  clear hdv hdu
  refine tri_fn Tryd.func7 rfl Tryd.ntmps7 Tryd.results7 (Nat.le_of_ble_eq_true rfl) ?_
  cases hf : v.few 300 with
  | false =>
    rw [hf] at FW
    refine' wlk3 AW.out FW.out FU.out
    ((try simp [*]); (try simp (discharger := omega) only [wrap_i64, dec_t, dec_f]))
    exact .mk _ σ (.refl _) leT ⟨rfl, rfl⟩
  | true =>
    cases hg : u.few 300 with
    | false =>
      rw [hf] at FW
      rw [hg] at FU
      refine' wlk3 AW.out FW.out FU.out
      ((try simp [*]); (try simp (discharger := omega) only [wrap_i64, dec_t, dec_f]))
      exact .mk _ σ (.refl _) leT ⟨rfl, rfl⟩
    | true =>
      rw [hf] at FW
      rw [hg] at FU
      refine' wlk3 AW.out FW.out FU.out
      (refine awp_draw (fun KS EG hK hP => ?_); refine draw_rule rfl [(0, false), (1, false), (2, false), (3, false)] [4, 5] [6, 7] (by kernel_rfl) ?_; repeat (first | ((first | refine dq_pu rfl ?_ | refine dq_rd rfl ?_ | (refine dq_gTp rfl rfl ?_ ?_; (focus (simp [*]; done))) | (refine dq_gTr rfl rfl ?_ ?_; (focus (simp [*]; done)))); constructor; refine And.intro (fun _ _ hO => ?_) ?_; (focus (simp [*]; (try simp (discharger := omega) only [wrap_i64, dec_t, dec_f]); (first | ((try (first | refine .inl ⟨?_, by omega, by omega⟩ | refine ⟨by omega, by omega, ?_⟩ | refine ⟨by omega, ?_⟩ | refine .inl ?_)); exact hO.out _ _ (.refl _) (St.le_refl _)) | ((first | refine Tri.call (RV.out _) ?_ | refine Tri.call (RU.out _) ?_); rintro _ _ ⟨rfl, h9⟩; replace h9 := h9.symm; subst h9; exact hO.out _ _ (.refl _) (St.le_refl _)) | exact .inr ⟨(RV.out _), hO.out _ _ (.refl _) (St.le_refl _)⟩ | exact .inl ⟨(RV.out _), hO.out _ _ (.refl _) (St.le_refl _)⟩ | exact ⟨_, (RV.out _), hO.out _ _ (.refl _) (St.le_refl _)⟩ | exact .inr ⟨(RU.out _), hO.out _ _ (.refl _) (St.le_refl _)⟩ | exact .inl ⟨(RU.out _), hO.out _ _ (.refl _) (St.le_refl _)⟩ | exact ⟨_, (RU.out _), hO.out _ _ (.refl _) (St.le_refl _)⟩))); (first | refine aput_some (by decide) ?_ | refine aput_none ?_)) | ((first | (refine dq_gF rfl rfl ?_ ?_; (focus (simp [*]; done))) | (refine dq_gU rfl rfl ?_ ?_; (focus (simp [*]; done)))); (first | refine aput_some (by decide) ?_ | refine aput_none ?_)) | refine dq_nil ?_ | refine dtail_none ?_ | refine dtail_some ?_ | refine dals_alloc rfl (by decide) (by simp; rfl) ?_ | refine dals_box rfl (by decide) (by simp [*]; rfl) ?_  | (refine dals_arrO rfl (by decide) (by first | rfl | simp) (by simp) (by intro σ'; simp [*]; exact RV.out _ σ') (by first | assumption | simp) ?_) | (refine dals_arrO rfl (by decide) (by first | rfl | simp) (by simp) (by intro σ'; simp [*]; exact RU.out _ σ') (by first | assumption | simp) ?_) | refine dals_nil ?_ | refine dfin_nil ?_ | (refine dfin_cons rfl ?_; simp only [fresh_set, ne_eq, and_assoc]; intro b8 c8 hf8 hc8; (try subst hc8); (repeat (obtain ⟨_, hf8⟩ := hf8))) | (refine aops_idx rfl (fun K9 hO => ?_); simp [*]; (try simp (discharger := omega) only [wrap_i64, dec_t, dec_f]); (first | ((try (first | refine .inl ⟨by omega, by omega, ?_⟩ | refine ⟨by omega, by omega, ?_⟩ | refine ⟨by omega, ?_⟩ | refine .inl ?_)); (first | (intro b; intros; refine hO.out _ _ ?_) | refine hO.out _ _ ?_)) | ((first | refine Tri.call (RV.out _) ?_ | refine Tri.call (RU.out _) ?_); (first | rintro _ _ ⟨rfl, h9⟩; replace h9 := h9.symm; subst h9 | rintro _ _ ⟨_, rfl, rfl⟩ | rintro _ _ ⟨_, _, rfl, rfl⟩ | rintro _ _ ⟨_, _, _, rfl, rfl⟩); refine hO.out _ _ ?_)); clear hO; (try clear K9); (first | refine aput_some (by decide) ?_ | refine aput_none ?_)) | refine aops_end ?_ | ((repeat ((fail_if_success (refine hK.out _ _ ?_)); clear hK; (try clear hP EG); (try clear KS))); refine hK.out _ _ ?_; clear hK; (try clear hP EG); try clear KS)))
      refine' wlk0
      cases sm
      · (refine awp_draw (fun KS EG hK hP => ?_); refine draw_rule rfl [(0, false), (1, false), (2, false), (3, false), (4, false), (5, false), (6, true), (7, true), (8, false), (9, false), (10, false), (11, false), (12, false), (13, false), (14, true), (15, true), (16, true), (17, false), (18, false), (19, false), (20, true), (21, true), (22, false), (23, false), (24, false), (25, false), (26, true), (27, true)] [] [] (by kernel_rfl) ?_; repeat (first | ((first | refine dq_pu rfl ?_ | refine dq_rd rfl ?_ | (refine dq_gTp rfl rfl ?_ ?_; (focus (simp [*]; done))) | (refine dq_gTr rfl rfl ?_ ?_; (focus (simp [*]; done)))); constructor; refine And.intro (fun _ _ hO => ?_) ?_; (focus (simp [*]; (try simp (discharger := omega) only [wrap_i64, dec_t, dec_f]); (first | ((try (first | refine .inl ⟨?_, by omega, by omega⟩ | refine ⟨by omega, by omega, ?_⟩ | refine ⟨by omega, ?_⟩ | refine .inl ?_)); exact hO.out _ _ (.refl _) (St.le_refl _)) | ((first | refine Tri.call (S1.out _) ?_ | refine Tri.call (S2.out _) ?_ | refine Tri.call (S3.out _) ?_ | refine Tri.call (S4.out _) ?_ | refine Tri.call (CV.out _) ?_); rintro _ _ ⟨rfl, h9⟩; replace h9 := h9.symm; subst h9; exact hO.out _ _ (.refl _) (St.le_refl _)) | exact .inr ⟨(S1.out _), hO.out _ _ (.refl _) (St.le_refl _)⟩ | exact .inl ⟨(S1.out _), hO.out _ _ (.refl _) (St.le_refl _)⟩ | exact ⟨_, (S1.out _), hO.out _ _ (.refl _) (St.le_refl _)⟩ | exact .inr ⟨(S2.out _), hO.out _ _ (.refl _) (St.le_refl _)⟩ | exact .inl ⟨(S2.out _), hO.out _ _ (.refl _) (St.le_refl _)⟩ | exact ⟨_, (S2.out _), hO.out _ _ (.refl _) (St.le_refl _)⟩ | exact .inr ⟨(S3.out _), hO.out _ _ (.refl _) (St.le_refl _)⟩ | exact .inl ⟨(S3.out _), hO.out _ _ (.refl _) (St.le_refl _)⟩ | exact ⟨_, (S3.out _), hO.out _ _ (.refl _) (St.le_refl _)⟩ | exact .inr ⟨(S4.out _), hO.out _ _ (.refl _) (St.le_refl _)⟩ | exact .inl ⟨(S4.out _), hO.out _ _ (.refl _) (St.le_refl _)⟩ | exact ⟨_, (S4.out _), hO.out _ _ (.refl _) (St.le_refl _)⟩ | exact .inr ⟨(CV.out _), hO.out _ _ (.refl _) (St.le_refl _)⟩ | exact .inl ⟨(CV.out _), hO.out _ _ (.refl _) (St.le_refl _)⟩ | exact ⟨_, (CV.out _), hO.out _ _ (.refl _) (St.le_refl _)⟩))); (first | refine aput_some (by decide) ?_ | refine aput_none ?_)) | ((first | (refine dq_gF rfl rfl ?_ ?_; (focus (simp [*]; done))) | (refine dq_gU rfl rfl ?_ ?_; (focus (simp [*]; done)))); (first | refine aput_some (by decide) ?_ | refine aput_none ?_)) | refine dq_nil ?_ | refine dtail_none ?_ | refine dtail_some ?_ | refine dals_alloc rfl (by decide) (by simp; rfl) ?_ | refine dals_box rfl (by decide) (by simp [*]; rfl) ?_  | (refine dals_arrO rfl (by decide) (by first | rfl | simp) (by simp) (by intro σ'; simp [*]; exact S1.out _ σ') (by first | assumption | simp) ?_) | (refine dals_arrO rfl (by decide) (by first | rfl | simp) (by simp) (by intro σ'; simp [*]; exact S2.out _ σ') (by first | assumption | simp) ?_) | (refine dals_arrO rfl (by decide) (by first | rfl | simp) (by simp) (by intro σ'; simp [*]; exact S3.out _ σ') (by first | assumption | simp) ?_) | (refine dals_arrO rfl (by decide) (by first | rfl | simp) (by simp) (by intro σ'; simp [*]; exact S4.out _ σ') (by first | assumption | simp) ?_) | (refine dals_arrO rfl (by decide) (by first | rfl | simp) (by simp) (by intro σ'; simp [*]; exact CV.out _ σ') (by first | assumption | simp) ?_) | refine dals_nil ?_ | refine dfin_nil ?_ | (refine dfin_cons rfl ?_; simp only [fresh_set, ne_eq, and_assoc]; intro b8 c8 hf8 hc8; (try subst hc8); (repeat (obtain ⟨_, hf8⟩ := hf8))) | (refine aops_idx rfl (fun K9 hO => ?_); simp [*]; (try simp (discharger := omega) only [wrap_i64, dec_t, dec_f]); (first | ((try (first | refine .inl ⟨by omega, by omega, ?_⟩ | refine ⟨by omega, by omega, ?_⟩ | refine ⟨by omega, ?_⟩ | refine .inl ?_)); (first | (intro b; intros; refine hO.out _ _ ?_) | refine hO.out _ _ ?_)) | ((first | refine Tri.call (S1.out _) ?_ | refine Tri.call (S2.out _) ?_ | refine Tri.call (S3.out _) ?_ | refine Tri.call (S4.out _) ?_ | refine Tri.call (CV.out _) ?_); (first | rintro _ _ ⟨rfl, h9⟩; replace h9 := h9.symm; subst h9 | rintro _ _ ⟨_, rfl, rfl⟩ | rintro _ _ ⟨_, _, rfl, rfl⟩ | rintro _ _ ⟨_, _, _, rfl, rfl⟩); refine hO.out _ _ ?_)); clear hO; (try clear K9); (first | refine aput_some (by decide) ?_ | refine aput_none ?_)) | refine aops_end ?_ | ((repeat ((fail_if_success (refine hK.out _ _ ?_)); clear hK; (try clear hP EG); (try clear KS))); refine hK.out _ _ ?_; clear hK; (try clear hP EG); try clear KS)))
        refine' wlk0
        ((try simp [*]); (try simp (discharger := omega) only [wrap_i64, dec_t, dec_f]))
        exact .mk _ σ (.refl _) leT ⟨rfl, rfl⟩
      · (refine awp_draw (fun KS EG hK hP => ?_); refine draw_rule rfl [(0, false), (1, false), (2, false), (3, false), (4, false), (5, false), (6, true), (7, true), (8, false), (9, false), (10, false), (11, false), (12, false), (13, false), (14, true), (15, true), (16, true), (17, false), (18, false), (19, false), (20, true), (21, true), (22, false), (23, false), (24, false), (25, false), (26, true), (27, true)] [] [] (by kernel_rfl) ?_; repeat (first | ((first | refine dq_pu rfl ?_ | refine dq_rd rfl ?_ | (refine dq_gTp rfl rfl ?_ ?_; (focus (simp [*]; done))) | (refine dq_gTr rfl rfl ?_ ?_; (focus (simp [*]; done)))); constructor; refine And.intro (fun _ _ hO => ?_) ?_; (focus (simp [*]; (try simp (discharger := omega) only [wrap_i64, dec_t, dec_f]); (first | ((try (first | refine .inl ⟨?_, by omega, by omega⟩ | refine ⟨by omega, by omega, ?_⟩ | refine ⟨by omega, ?_⟩ | refine .inl ?_)); exact hO.out _ _ (.refl _) (St.le_refl _)) | ((first | refine Tri.call (S1.out _) ?_ | refine Tri.call (S2.out _) ?_ | refine Tri.call (S3.out _) ?_ | refine Tri.call (S4.out _) ?_ | refine Tri.call (CV.out _) ?_); rintro _ _ ⟨rfl, h9⟩; replace h9 := h9.symm; subst h9; exact hO.out _ _ (.refl _) (St.le_refl _)) | exact .inr ⟨(S1.out _), hO.out _ _ (.refl _) (St.le_refl _)⟩ | exact .inl ⟨(S1.out _), hO.out _ _ (.refl _) (St.le_refl _)⟩ | exact ⟨_, (S1.out _), hO.out _ _ (.refl _) (St.le_refl _)⟩ | exact .inr ⟨(S2.out _), hO.out _ _ (.refl _) (St.le_refl _)⟩ | exact .inl ⟨(S2.out _), hO.out _ _ (.refl _) (St.le_refl _)⟩ | exact ⟨_, (S2.out _), hO.out _ _ (.refl _) (St.le_refl _)⟩ | exact .inr ⟨(S3.out _), hO.out _ _ (.refl _) (St.le_refl _)⟩ | exact .inl ⟨(S3.out _), hO.out _ _ (.refl _) (St.le_refl _)⟩ | exact ⟨_, (S3.out _), hO.out _ _ (.refl _) (St.le_refl _)⟩ | exact .inr ⟨(S4.out _), hO.out _ _ (.refl _) (St.le_refl _)⟩ | exact .inl ⟨(S4.out _), hO.out _ _ (.refl _) (St.le_refl _)⟩ | exact ⟨_, (S4.out _), hO.out _ _ (.refl _) (St.le_refl _)⟩ | exact .inr ⟨(CV.out _), hO.out _ _ (.refl _) (St.le_refl _)⟩ | exact .inl ⟨(CV.out _), hO.out _ _ (.refl _) (St.le_refl _)⟩ | exact ⟨_, (CV.out _), hO.out _ _ (.refl _) (St.le_refl _)⟩))); (first | refine aput_some (by decide) ?_ | refine aput_none ?_)) | ((first | (refine dq_gF rfl rfl ?_ ?_; (focus (simp [*]; done))) | (refine dq_gU rfl rfl ?_ ?_; (focus (simp [*]; done)))); (first | refine aput_some (by decide) ?_ | refine aput_none ?_)) | refine dq_nil ?_ | refine dtail_none ?_ | refine dtail_some ?_ | refine dals_alloc rfl (by decide) (by simp; rfl) ?_ | refine dals_box rfl (by decide) (by simp [*]; rfl) ?_  | (refine dals_arrO rfl (by decide) (by first | rfl | simp) (by simp) (by intro σ'; simp [*]; exact S1.out _ σ') (by first | assumption | simp) ?_) | (refine dals_arrO rfl (by decide) (by first | rfl | simp) (by simp) (by intro σ'; simp [*]; exact S2.out _ σ') (by first | assumption | simp) ?_) | (refine dals_arrO rfl (by decide) (by first | rfl | simp) (by simp) (by intro σ'; simp [*]; exact S3.out _ σ') (by first | assumption | simp) ?_) | (refine dals_arrO rfl (by decide) (by first | rfl | simp) (by simp) (by intro σ'; simp [*]; exact S4.out _ σ') (by first | assumption | simp) ?_) | (refine dals_arrO rfl (by decide) (by first | rfl | simp) (by simp) (by intro σ'; simp [*]; exact CV.out _ σ') (by first | assumption | simp) ?_) | refine dals_nil ?_ | refine dfin_nil ?_ | (refine dfin_cons rfl ?_; simp only [fresh_set, ne_eq, and_assoc]; intro b8 c8 hf8 hc8; (try subst hc8); (repeat (obtain ⟨_, hf8⟩ := hf8))) | (refine aops_idx rfl (fun K9 hO => ?_); simp [*]; (try simp (discharger := omega) only [wrap_i64, dec_t, dec_f]); (first | ((try (first | refine .inl ⟨by omega, by omega, ?_⟩ | refine ⟨by omega, by omega, ?_⟩ | refine ⟨by omega, ?_⟩ | refine .inl ?_)); (first | (intro b; intros; refine hO.out _ _ ?_) | refine hO.out _ _ ?_)) | ((first | refine Tri.call (S1.out _) ?_ | refine Tri.call (S2.out _) ?_ | refine Tri.call (S3.out _) ?_ | refine Tri.call (S4.out _) ?_ | refine Tri.call (CV.out _) ?_); (first | rintro _ _ ⟨rfl, h9⟩; replace h9 := h9.symm; subst h9 | rintro _ _ ⟨_, rfl, rfl⟩ | rintro _ _ ⟨_, _, rfl, rfl⟩ | rintro _ _ ⟨_, _, _, rfl, rfl⟩); refine hO.out _ _ ?_)); clear hO; (try clear K9); (first | refine aput_some (by decide) ?_ | refine aput_none ?_)) | refine aops_end ?_ | ((repeat ((fail_if_success (refine hK.out _ _ ?_)); clear hK; (try clear hP EG); (try clear KS))); refine hK.out _ _ ?_; clear hK; (try clear hP EG); try clear KS)))
        refine' wlk0
        ((try simp [*]); (try simp (discharger := omega) only [wrap_i64, dec_t, dec_f]))
        exact .mk _ σ (.refl _) leT ⟨rfl, rfl⟩
end Go.Proofs.YtmjendeigjdihaaDoor
/-
  Arguments as they are read out of a row, over the logic.
-/
namespace Go.Proofs.YtmjendeigjdihaaDoor
open Go.RowKit Go.ChangeShapes Go.WideShapes
set_option maxRecDepth 100000
set_option linter.unusedVariables false
set_option linter.unusedSimpArgs false

/-- What the form's own reach says of a datum. -/
def Reached {H : Type} (P : Program) (t : TypeId) (d : DataW H) : Prop := ∀ m ∈ d.weights P t, m ≤ reachBytes
section
variable {H : Type}
theorem reached_str {P : Program} {t : TypeId} {bs : List UInt8} (h : Reached P t (.lit (.string bs) : DataW H)) : bs.length ≤ reachBytes := h _ (by simp [DataW.weights])
theorem weightsAll_mem {P : Program} {e : TypeId} {m : Nat} : ∀ {ds : List (DataW H)} {d : DataW H}, d ∈ ds → m ∈ d.weights P e → m ∈ DataW.weightsAll P e ds
  | x :: r, d, hd, hm => by
    simp only [DataW.weightsAll, List.mem_append]
    rcases List.mem_cons.1 hd with rfl | hd
    · exact .inl hm
    · exact .inr (weightsAll_mem hd hm)
theorem reached_elem {P : Program} {t e : TypeId} (hu : P.underlying t = some (.slice e)) {elems spare : List (DataW H)} (h : Reached P t (.slice elems spare)) {d : DataW H} (hd : d ∈ elems) : Reached P e d := fun m hm => by
  refine h m ?_
  simp only [DataW.weights, hu, List.mem_cons, List.mem_append]
  exact .inr (.inl (weightsAll_mem hd hm))
theorem reached_len {P : Program} {t e : TypeId} (hu : P.underlying t = some (.slice e)) {elems spare : List (DataW H)} (h : Reached P t (.slice elems spare)) : elems.length * P.bytesOf e ≤ reachBytes := by
  have := h ((elems.length + spare.length) * P.bytesOf e) (by simp [DataW.weights, hu])
  exact Nat.le_trans (Nat.mul_le_mul_right _ (Nat.le_add_right _ _)) this
theorem reached_field {P : Program} {t : TypeId} {fs : Array Field} (hu : P.underlying t = some (.struct fs)) {parts : List (DataW H)} (h : Reached P t (.agg parts)) {i : Nat} {ty : TypeId} {d : DataW H} (h1 : (fs.toList.map (·.type))[i]? = some ty) (h2 : parts[i]? = some d) : Reached P ty d := fun m hm => by
  refine h m ?_
  simp only [DataW.weights, hu]
  exact DataW.weights_mem_each h1 h2 m hm
theorem reached_arg {P : Program} {ts : List TypeId} {ds : List (DataW H)} (h : (DataW.weightsEach P ts ds).all (· ≤ reachBytes) = true) {j : Nat} {t : TypeId} {d : DataW H} (ht : ts[j]? = some t) (hd : ds[j]? = some d) : Reached P t d := fun m hm => by
  have := List.all_eq_true.1 h _ (DataW.weights_mem_each ht hd m hm)
  simpa using this
end
/-- What is read as a type, with so much fuel. -/
def Rd (P : Program) (N : Nat) (t : TypeId) {α : Type} (cells : α → List D) (fits : α → Prop) : Prop :=
  ∀ {H : Type} (enc : TypeId × Value → H) (w : World) (base : Nat) (spare : Nat → Bool) (held : Bool) (fuel : Nat) (cs : List Value) (x : DataW H × List MemPlace), fuel ≤ N → DataW.trod enc P w base spare held fuel t cs = some x →
    ∃ a : α, RepL (Gh.of w) cs (cells a) ∧ (∀ v ∈ cs, v.oneCell' = true) ∧ (Reached P t x.1 → fits a)
theorem Rd.mono {P : Program} {N M : Nat} {t : TypeId} {α : Type} {cells : α → List D} {fits : α → Prop} (h : Rd P N t cells fits) (hm : M ≤ N) : Rd P M t cells fits := fun enc w base spare held fuel cs x hf => h enc w base spare held fuel cs x (Nat.le_trans hf hm)
theorem repL1 {G : Gh} {v : Value} {d : D} (h : Rep G v d) : RepL G [v] [d] := (RepL.nil G).cons h
theorem Rd.int {P : Program} {N : Nat} {t : TypeId} (ht : P.underlying t = some (.int .i64)) : Rd P N t (fun n : Int => [.i n]) (fun _ => True) := fun enc w base spare held fuel cs x _ h => by
  obtain ⟨n, rfl, _, _⟩ := DataW.trod_int ht h
  exact ⟨n, repL1 (.v _), by simp [Value.oneCell'], fun _ => trivial⟩
theorem Rd.bool {P : Program} {N : Nat} {t : TypeId} (ht : P.underlying t = some .bool) : Rd P N t (fun b : Bool => [.b b]) (fun _ => True) := fun enc w base spare held fuel cs x _ h => by
  obtain ⟨n, rfl, _⟩ := DataW.trod_bool ht h
  exact ⟨n, repL1 (.v _), by simp [Value.oneCell'], fun _ => trivial⟩
theorem Rd.str {P : Program} {N : Nat} {t : TypeId} (ht : P.underlying t = some .string) : Rd P N t (fun s : ByteArray => [.s s]) (fun s => s.size ≤ reachBytes) := fun enc w base spare held fuel cs x _ h => by
  obtain ⟨s, rfl, rfl, _⟩ := DataW.trod_string ht h
  exact ⟨s, repL1 (.v _), by simp [Value.oneCell'], fun hr => by have := reached_str hr; simpa using this⟩
theorem list_lt {α : Type} : ∀ {n : Nat} {p : Nat → α → Prop}, (∀ i, i < n → ∃ a, p i a) → ∃ l : List α, l.length = n ∧ ∀ i a, l[i]? = some a → p i a
  | 0, p, _ => ⟨[], rfl, fun i a h => by simp at h⟩
  | n + 1, p, h => by
    obtain ⟨l, hl, hp⟩ := list_lt (n := n) (p := p) fun i hi => h i (by omega)
    obtain ⟨a, ha⟩ := h n (by omega)
    refine ⟨l ++ [a], by simp [hl], fun i b hb => ?_⟩
    by_cases hi : i < l.length
    · rw [List.getElem?_append_left hi] at hb
      exact hp i b hb
    · have hi2 : i = l.length := by
        have := (List.getElem?_eq_some_iff.1 hb).1
        simp at this
        omega
      subst hi2
      simp at hb
      rw [← hb, hl]
      exact ha
theorem flat_at {α : Type} {sz : Nat} (hz : 0 < sz) : ∀ (yss : List (List α)) (k : Nat) (u : α), (∀ ys ∈ yss, ys.length = sz) → yss.flatten[k]? = some u → ∃ ys, yss[k / sz]? = some ys ∧ ys[k % sz]? = some u
  | [], k, u, _, h => by simp at h
  | ys :: yss, k, u, hs, h => by
    have hl : ys.length = sz := hs ys (by simp)
    by_cases hk : k < sz
    · rw [List.flatten_cons, List.getElem?_append_left (by omega)] at h
      refine ⟨ys, by rw [Nat.div_eq_of_lt hk]; rfl, by rw [Nat.mod_eq_of_lt hk]; exact h⟩
    · rw [List.flatten_cons, List.getElem?_append_right (by omega), hl] at h
      obtain ⟨zs, h1, h2⟩ := flat_at hz yss (k - sz) u (fun y hy => hs y (by simp [hy])) h
      have hk' : k = (k - sz) + sz := by omega
      refine ⟨zs, ?_, ?_⟩
      · rw [hk', Nat.add_div_right _ hz]; simpa using h1
      · rw [hk', Nat.add_mod_right]; exact h2
theorem cell_spot {w : World} {a : Addr} {v : Value} (h : w.cell? a = some v) : a.spot = none := by
  unfold World.cell? at h
  split at h
  · split at h
    · cases h
    · rename_i hs
      cases hq : a.spot with
      | none => rfl
      | some x => rw [hq] at hs; simp at hs
  · cases h
theorem gh_cell {w : World} {b o : Nat} {v : Value} (h : w.cell? ⟨b, o, none⟩ = some v) (h1 : v.oneCell' = true) : Gh.of w b o = some v := by
  unfold Gh.of
  rw [h]
  simp [h1]
theorem Rd.slice {P : Program} {N : Nat} {t e : TypeId} {α : Type} {cells : α → List D} {fits : α → Prop} {sz by_ : Nat} (ht : P.underlying t = some (.slice e)) (hc : P.cellsOf e = sz) (hby : P.bytesOf e = by_) (hpos : 0 < sz) (hsz : ∀ a, (cells a).length = sz) (R : Rd P N e cells fits) :
    Rd P (N + 1) t (fun l : List α => [.lst false sz (l.map cells)]) (fun l => l.length * by_ ≤ reachBytes ∧ ∀ a ∈ l, fits a) := fun enc w base spare held fuel cs x hf h => by
  rcases DataW.trod_slice ht h with ⟨rfl, rfl⟩ | ⟨a, len, cap, elems, rest, n, rfl, rfl, rfl, hb, hl, hm, hlen, hel, _⟩
  · exact ⟨[], repL1 (.lst0 _ _), by simp [Value.oneCell'], fun _ => ⟨by simp, by simp⟩⟩
  · have hV : ∀ i, i < len → ∃ v : α, ∃ cs', w.cells? base (a.add (i * sz)) sz = some cs' ∧ RepL (Gh.of w) cs' (cells v) ∧ (∀ u ∈ cs', u.oneCell' = true) ∧ (Reached P t (.slice (elems.map (·.1)) (rest.map (·.1))) → fits v) := by
      intro i hi
      have h1 := hel i hi
      have hie : i < elems.length := by omega
      rw [hc, List.getElem?_eq_getElem hie] at h1
      obtain ⟨cs', h2, h3⟩ := Option.bind_eq_some_iff.1 h1
      obtain ⟨v, k1, k2, k3⟩ := R enc w base spare held n cs' _ (by omega) h3
      exact ⟨v, cs', h2, k1, k2, fun hr => k3 (reached_elem ht hr (List.mem_map.2 ⟨elems[i], List.getElem_mem hie, rfl⟩))⟩
    obtain ⟨l, hll, hp⟩ := list_lt hV
    refine ⟨l, ?_, by simp [Value.oneCell'], fun hr => ⟨?_, fun v hv => ?_⟩⟩
    · have hspot : l ≠ [] → a.spot = none := fun hne => by
        have h0 : 0 < l.length := List.length_pos_iff.2 hne
        obtain ⟨cs', h1, h2, _⟩ := hp 0 _ (List.getElem?_eq_getElem h0)
        obtain ⟨_, h3, h4⟩ := World.cells?_some h1
        have h5 := h4 0 hpos
        rw [List.getElem?_eq_getElem (by omega)] at h5
        have := cell_spot h5
        simpa [Addr.add] using this
      have hcell : ∀ k, k < l.length * sz → ∃ v, w.cell? ⟨a.block, a.off + k, none⟩ = some v ∧ v.oneCell' = true ∧ ∀ d, (l.map cells).flatten[k]? = some d → Rep (Gh.of w) v d := by
        intro k hk
        have hi : k / sz < l.length := (Nat.div_lt_iff_lt_mul hpos).2 hk
        have hj : k % sz < sz := Nat.mod_lt _ hpos
        have hsp := hspot (by rintro rfl; simp at hi)
        obtain ⟨cs', h1, h2, h3, _⟩ := hp (k / sz) _ (List.getElem?_eq_getElem hi)
        obtain ⟨_, h4, h5⟩ := World.cells?_some h1
        have h6 := h5 (k % sz) hj
        rw [List.getElem?_eq_getElem (by omega)] at h6
        have he : (a.add (k / sz * sz)).add (k % sz) = ⟨a.block, a.off + k, none⟩ := by
          have hk' : k / sz * sz + k % sz = k := Nat.div_add_mod' k sz
          obtain ⟨b, o, sp⟩ := a
          simp only at hsp
          subst hsp
          unfold Addr.add
          split <;> split <;> simp_all <;> omega
        rw [he] at h6
        refine ⟨_, h6, h3 _ (List.getElem_mem _), fun d hd => ?_⟩
        obtain ⟨ys, h7, h8⟩ := flat_at hpos _ k d (fun ys hy => by obtain ⟨v, _, rfl⟩ := List.mem_map.1 hy; exact hsz v) hd
        rw [List.getElem?_map, List.getElem?_eq_getElem hi] at h7
        injection h7 with h7
        subst h7
        exact h2.rep (k % sz) _ d (List.getElem?_eq_getElem (by omega)) h8
      have := Rep.slice (G := Gh.of w) a cap none false sz (l.map cells) (fun k => (w.cell? ⟨a.block, a.off + k, none⟩).getD undef) (fun hne => hspot (by rintro rfl; exact hne rfl)) (by rw [List.length_map, hll]; exact hl) (by simp)
        (fun ys hy => by obtain ⟨v, _, rfl⟩ := List.mem_map.1 hy; exact hsz v)
        (fun k hk => by
          rw [List.length_map] at hk
          obtain ⟨v, h1, h2, _⟩ := hcell k hk
          rw [h1]
          exact gh_cell h1 h2)
        (fun k d hd => by
          have hk : k < l.length * sz := by
            have := (List.getElem?_eq_some_iff.1 hd).1
            rwa [flat_len (sz := sz) _ (fun ys hy => by obtain ⟨v, _, rfl⟩ := List.mem_map.1 hy; exact hsz v), List.length_map] at this
          obtain ⟨v, h1, _, h3⟩ := hcell k hk
          simp only [h1]
          exact h3 d hd) (by simp)
      rw [List.length_map, hll] at this
      exact repL1 (.lst _ _ _ _ this)
    · have := reached_len ht hr
      rw [hby] at this
      simpa [hll, hlen] using this
    · obtain ⟨i, hi, rfl⟩ := List.mem_iff_getElem.1 hv
      obtain ⟨_, _, _, _, h5⟩ := hp i _ (List.getElem?_eq_getElem hi)
      exact h5 hr
end Go.Proofs.YtmjendeigjdihaaDoor
/-
  Values (chapter 1) as they are read out of a row.
-/
namespace Go.Proofs.YtmjendeigjdihaaDoor
open Go.RowKit Go.ChangeShapes Go.WideShapes
set_option maxRecDepth 100000
set_option linter.unusedVariables false
set_option linter.unusedSimpArgs false

theorem oks_of : ∀ (l : List V), (∀ x ∈ l, x.ok) → V.oks l
  | [], _ => by rw [V.oks]; trivial
  | v :: l, h => by rw [V.oks]; exact ⟨h v List.mem_cons_self, oks_of l fun x hx => h x (List.mem_cons_of_mem _ hx)⟩
theorem okm_of : ∀ (l : List (ByteArray × V)), (∀ x ∈ l, x.1.size ≤ 140737488351232 ∧ x.2.ok) → V.okm l
  | [], _ => by rw [V.okm]; trivial
  | (k, v) :: l, h => by rw [V.okm]; exact ⟨(h (k, v) List.mem_cons_self).1, (h (k, v) List.mem_cons_self).2, okm_of l fun x hx => h x (List.mem_cons_of_mem _ hx)⟩
theorem list6 {α : Type} : ∀ {l : List α}, l.length = 6 → ∃ a0 a1 a2 a3 a4 a5, l = [a0, a1, a2, a3, a4, a5]
  | [a0, a1, a2, a3, a4, a5], _ => ⟨a0, a1, a2, a3, a4, a5, rfl⟩
theorem reach_num : reachBytes = 140737488351232 := rfl
theorem cellsV : Program.cellsOf Tryd.prog 25 = 6 := by kernel_rfl
theorem cellsM : Program.cellsOf Tryd.prog 43 = 7 := by kernel_rfl
theorem rdM {N : Nat} (R : Rd Tryd.prog N 25 V.d V.ok) : Rd Tryd.prog (N + 1) 43 (fun x : ByteArray × V => .s x.1 :: x.2.d) (fun x => x.1.size ≤ 140737488351232 ∧ x.2.ok) := fun enc w base spare held fuel cs x hfu h => by
  obtain ⟨xs, n', rfl, rfl, hlen, hxl, hf⟩ := DataW.trod_struct Tryd.underlying43 h
  have hlen' : cs.length = 7 := hlen.trans cellsM
  have hx3 : xs.length = 2 := hxl
  have g0 := hf 0 _ rfl
  have g1 := hf 1 _ rfl
  obtain ⟨y0, y1, rfl⟩ : ∃ y0 y1, xs = [y0, y1] := by
    rcases xs with _ | ⟨y0, _ | ⟨y1, _ | ⟨y2, xs⟩⟩⟩ <;> simp at hx3
    exact ⟨y0, y1, rfl⟩
  obtain ⟨x0, ys, rfl⟩ : ∃ x0 ys, cs = x0 :: ys := by
    rcases cs with _ | ⟨x0, ys⟩
    · simp at hlen'
    · exact ⟨x0, ys, rfl⟩
  have hys : ys.length = 6 := by simpa using hlen'
  change DataW.trod enc Tryd.prog w base spare held n' 9 (((x0 :: ys).drop 0).take (Program.cellsOf Tryd.prog 9)) = some y0 at g0
  change DataW.trod enc Tryd.prog w base spare held n' 25 (((x0 :: ys).drop 1).take (Program.cellsOf Tryd.prog 25)) = some y1 at g1
  have e0 : Program.cellsOf Tryd.prog 9 = 1 := by kernel_rfl
  rw [e0] at g0
  rw [cellsV, List.drop_succ_cons, List.drop_zero, List.take_of_length_le (by omega)] at g1
  simp only [List.drop_zero, List.take_succ_cons, List.take_zero] at g0
  obtain ⟨a0, r0, o0, f0⟩ := Rd.str (N := n') Tryd.underlying9 enc w base spare held n' _ y0 (Nat.le_refl _) g0
  obtain ⟨a1, r1, o1, f1⟩ := R enc w base spare held n' _ y1 (by omega) g1
  refine ⟨(a0, a1), r0.append r1, ?_, fun hr => ⟨?_, ?_⟩⟩
  · intro v hv
    rcases List.mem_cons.1 hv with rfl | hv
    · exact o0 _ (by simp)
    · exact o1 _ hv
  · have := f0 (reached_field Tryd.underlying43 hr (i := 0) rfl rfl)
    rwa [reach_num] at this
  · exact f1 (reached_field Tryd.underlying43 hr (i := 1) rfl rfl)
theorem rdV (N : Nat) : Rd Tryd.prog N 25 V.d V.ok := by
  induction N using Nat.strongRecOn with
  | _ N ih =>
    intro H enc w base spare held fuel cs x hfu h
    obtain ⟨xs, n', rfl, rfl, hlen, hxl, hf⟩ := DataW.trod_struct Tryd.underlying25 h
    have hlen' : cs.length = 6 := hlen.trans cellsV
    have hx3 : xs.length = 6 := hxl
    have g0 := hf 0 _ rfl
    have g1 := hf 1 _ rfl
    have g2 := hf 2 _ rfl
    have g3 := hf 3 _ rfl
    have g4 := hf 4 _ rfl
    have g5 := hf 5 _ rfl
    obtain ⟨y0, y1, y2, y3, y4, y5, rfl⟩ := list6 hx3
    obtain ⟨x0, x1, x2, x3, x4, x5, rfl⟩ := list6 hlen'
    change DataW.trod enc Tryd.prog w base spare held n' 3 (([x0, x1, x2, x3, x4, x5].drop 0).take (Program.cellsOf Tryd.prog 3)) = some y0 at g0
    change DataW.trod enc Tryd.prog w base spare held n' 4 (([x0, x1, x2, x3, x4, x5].drop 1).take (Program.cellsOf Tryd.prog 4)) = some y1 at g1
    change DataW.trod enc Tryd.prog w base spare held n' 3 (([x0, x1, x2, x3, x4, x5].drop 2).take (Program.cellsOf Tryd.prog 3)) = some y2 at g2
    change DataW.trod enc Tryd.prog w base spare held n' 9 (([x0, x1, x2, x3, x4, x5].drop 3).take (Program.cellsOf Tryd.prog 9)) = some y3 at g3
    change DataW.trod enc Tryd.prog w base spare held n' 22 (([x0, x1, x2, x3, x4, x5].drop 4).take (Program.cellsOf Tryd.prog 22)) = some y4 at g4
    change DataW.trod enc Tryd.prog w base spare held n' 23 (([x0, x1, x2, x3, x4, x5].drop 5).take (Program.cellsOf Tryd.prog 23)) = some y5 at g5
    have e0 : Program.cellsOf Tryd.prog 3 = 1 := by kernel_rfl
    have e1 : Program.cellsOf Tryd.prog 4 = 1 := by kernel_rfl
    have e2 : Program.cellsOf Tryd.prog 9 = 1 := by kernel_rfl
    have e3 : Program.cellsOf Tryd.prog 22 = 1 := by kernel_rfl
    have e4 : Program.cellsOf Tryd.prog 23 = 1 := by kernel_rfl
    simp only [e0, e1, e2, e3, e4, List.drop_succ_cons, List.drop_zero, List.take_succ_cons, List.take_zero] at g0 g1 g2 g3 g4 g5
    have RV : Rd Tryd.prog (n' - 1) 25 V.d V.ok := ih (n' - 1) (by omega)
    have RV2 : Rd Tryd.prog (n' - 2) 25 V.d V.ok := ih (n' - 2) (by omega)
    obtain ⟨a0, r0, o0, _⟩ := Rd.int (N := n') Tryd.underlying3 enc w base spare held n' _ y0 (Nat.le_refl _) g0
    obtain ⟨a1, r1, o1, _⟩ := Rd.bool (N := n') Tryd.underlying4 enc w base spare held n' _ y1 (Nat.le_refl _) g1
    obtain ⟨a2, r2, o2, _⟩ := Rd.int (N := n') Tryd.underlying3 enc w base spare held n' _ y2 (Nat.le_refl _) g2
    obtain ⟨a3, r3, o3, f3⟩ := Rd.str (N := n') Tryd.underlying9 enc w base spare held n' _ y3 (Nat.le_refl _) g3
    obtain ⟨a4, r4, o4, f4⟩ := Rd.slice (by_ := 88) Tryd.underlying22 cellsV (by kernel_rfl) (by decide) (fun a => V.d_len a) RV enc w base spare held n' _ y4 (by omega) g4
    obtain ⟨a5, r5, o5, f5⟩ := Rd.slice (by_ := 104) Tryd.underlying23 cellsM (by kernel_rfl) (by decide) (fun a => by simp) (rdM RV2) enc w base spare held n' _ y5 (by omega) g5
    refine ⟨.mk a0 a1 a2 a3 a4 a5, ?_, ?_, fun hr => ?_⟩
    · rw [V.d, V.ds_map, V.dm_map]
      exact r0.append (r1.append (r2.append (r3.append (r4.append r5))))
    · intro v hv
      simp only [List.mem_cons, List.not_mem_nil, or_false] at hv
      rcases hv with rfl | rfl | rfl | rfl | rfl | rfl
      · exact o0 _ (by simp)
      · exact o1 _ (by simp)
      · exact o2 _ (by simp)
      · exact o3 _ (by simp)
      · exact o4 _ (by simp)
      · exact o5 _ (by simp)
    · have h3 := f3 (reached_field Tryd.underlying25 hr (i := 3) rfl rfl)
      have h4 := f4 (reached_field Tryd.underlying25 hr (i := 4) rfl rfl)
      have h5 := f5 (reached_field Tryd.underlying25 hr (i := 5) rfl rfl)
      rw [reach_num] at h3 h4 h5
      rw [V.ok]
      exact ⟨h3, h4.1, h5.1, oks_of _ h4.2, okm_of _ h5.2⟩
end Go.Proofs.YtmjendeigjdihaaDoor
/-
  What the rows' variables hold, as a walk wants it; a world that meets the condition.
-/
namespace Go.Proofs.YtmjendeigjdihaaDoor
open Go.RowKit
set_option maxRecDepth 100000
set_option linter.unusedVariables false
set_option linter.unusedSimpArgs false

theorem lay_et : Tryd.prog.globalNamed "errors.errorType" = some 0 := by kernel_rfl
theorem lay_rt : (Tryd.prog.cutTypes.find? (·.1 == "internal/reflectlite.rtype")).map (·.2) = some 117 := by kernel_rfl
theorem lay_one : ((List.range (288 - 100)).filter fun t => Tryd.prog.rowNamed t [101, 114, 114, 111, 114]) = [32] := by kernel_rfl
theorem lay_size : Tryd.prog.types.size = 288 - 100 := by kernel_rfl
theorem errT_of {W : World} (h : handlesMet Tryd.prog [("errors.errorType", Rows.laid_errors_errorType)] W) : ErrT W := by
  obtain ⟨name, u, ty, e1, e2, e3, e4, e5⟩ := h _ (List.mem_singleton.2 rfl)
  have en : name = [101, 114, 114, 111, 114] := (Option.some.inj e1).symm
  subst en
  obtain rfl := Option.some.inj (lay_rt.symm.trans e2)
  have hm : ty ∈ (List.range (288 - 100)).filter fun t => Tryd.prog.rowNamed t [101, 114, 114, 111, 114] := List.mem_filter.2 ⟨List.mem_range.2 (by rw [← lay_size]; exact e3), e4⟩
  rw [lay_one] at hm
  obtain rfl := List.mem_singleton.1 hm
  have hh : typeHandle Tryd.prog 32 = .pointer (some ⟨7, 32, none⟩) := by kernel_rfl
  rw [hh] at e5
  have := World.var?_cell lay_et e5 0
  simpa [ErrT] using this
/-- The plain tables among them. -/
def plainLaid : List (String × DataW Unit) := Rows.valueChecksRow.laid.filter fun x => x.2.handleName?.isNone
theorem utf8_of {W : World} (h : laidMet Tryd.prog plainLaid W) : Lib.Utf8Tabs 1 2 W := by
  have h1 := Lib.laidMet.reads h (n := "unicode/utf8.first") (d := Rows.laid_unicode_utf8_first) (by unfold plainLaid; exact List.mem_filter.2 ⟨by simp [Rows.valueChecksRow], by kernel_rfl⟩)
  have h2 := Lib.laidMet.reads h (n := "unicode/utf8.acceptRanges") (d := Rows.laid_unicode_utf8_acceptRanges) (by unfold plainLaid; exact List.mem_filter.2 ⟨by simp [Rows.valueChecksRow], by kernel_rfl⟩)
  have e1 : Rows.laid_unicode_utf8_first = Lib.firstData := by kernel_rfl
  have e2 : (Rows.laid_unicode_utf8_acceptRanges : DataW Unit) = Lib.acceptData := by kernel_rfl
  rw [e1] at h1
  rw [e2] at h2
  exact utf8Tabs_of_readsT (U8Types.of196 Tryd.laysValid) ⟨by kernel_rfl, by kernel_rfl, by kernel_rfl, by kernel_rfl, by kernel_rfl, by kernel_rfl, by kernel_rfl⟩ h1 h2
theorem pow10_of {W : World} (h : laidMet Tryd.prog plainLaid W) : Lib.TabIs Tryd.prog W "internal/strconv.uint64pow10" .u64 Lib.pow10Tab := by
  obtain ⟨g, t, cs, fuel, p, hg, hty, hvar, hd⟩ := Lib.laidMet.reads h (n := "internal/strconv.uint64pow10") (d := Rows.laid_internal_strconv_uint64pow10) (by unfold plainLaid; exact List.mem_filter.2 ⟨by simp [Rows.valueChecksRow], by kernel_rfl⟩)
  have e1 : (Rows.laid_internal_strconv_uint64pow10 : DataW Unit) = Lib.tabData .u64 Lib.pow10Tab := by kernel_rfl
  rw [e1] at hd
  have hg' : Tryd.prog.globalNamed "internal/strconv.uint64pow10" = some 4 := by kernel_rfl
  obtain rfl := Option.some.inj (hg'.symm.trans hg)
  have hy : (Tryd.prog.globals[4]?).map (·.type) = some 151 := by kernel_rfl
  obtain rfl := Option.some.inj (hy.symm.trans hty)
  have := Lib.cells_of_tab Tryd.underlying151 Tryd.underlying141 (by kernel_rfl) (by kernel_rfl) hd
  unfold Lib.TabIs
  rw [hvar, ← this]
theorem maxLen_of {W : World} (h : W.ShapedOpen Tryd.prog) : SomeNum W 3 :=
  Go.Proofs.cell_of_shapedOpen_int (zero := #[.int .i64 0]) (t := 3) h (of_decide_eq_true (by kernel_rfl)) (by kernel_rfl) rfl (by kernel_rfl) (by kernel_rfl) Tryd.underlying3
theorem baseOk_of {W : World} (hsh : W.ShapedOpen Tryd.prog) (h : laidMetH Tryd.prog Rows.valueChecksRow.laid W) : BaseOk W := by
  have h' : laidMet Tryd.prog plainLaid W ∧ handlesMet Tryd.prog [("errors.errorType", Rows.laid_errors_errorType)] W := h
  exact ⟨maxLen_of hsh, errT_of h'.2, utf8_of h'.1, pow10_of h'.1, trivial⟩
/-- A world that meets the condition. -/
noncomputable def laidWorld (os : Os) : World :=
  { World.laidAll Tryd.prog os plainLaid with heap := (World.laidAll Tryd.prog os plainLaid).heap.modify 0 fun
      | .cells _ t frozen => .cells #[.iface 117 (.agg #[.pointer (some ⟨7, 32, none⟩)])] t frozen
      | o => o }
theorem laid_met (os : Os) (args : Array Value) : laidMetH Tryd.prog Rows.valueChecksRow.laid ((laidWorld os).forCall (fun _ _ => 0) ⟨#[], args, []⟩).memory :=
  laidMetH_of_parts (laidMet_of_run' 8 (by kernel_rfl) (by kernel_rfl)) (by kernel_rfl)
end Go.Proofs.YtmjendeigjdihaaDoor
/-
  An argument that is a value of chapter 1.
-/
namespace Go.Proofs.YtmjendeigjdihaaDoor
open Go.RowKit
set_option maxRecDepth 100000
set_option linter.unusedVariables false
set_option linter.unusedSimpArgs false

theorem below_sameAt {w w' : World} (h : Below w.heap.size w w') {p : MemPlace} (hp : p.block < w.heap.size) : w.sameAt w' p := by
  cases p with
  | cell b off => exact h.cell (p := ⟨b, off, none⟩) hp
  | map b => simp only [World.sameAt, h.block b hp]
theorem argV {H : Type} {enc : TypeId × Value → H} {W : World} {base : Nat} {v0 : Value} {d0 : DataW H} {p0 : List MemPlace}
    (hval : Value.okWide Tryd.prog W .any base 25 v0) (h0 : DataW.Trod enc Tryd.prog W 0 (fun _ => true) true 25 v0 d0 p0) (hr : Reached Tryd.prog 25 d0) :
    ∃ a : V, a.ok ∧ Rep (Gh.of W) v0 (.agg a.d) := by
  obtain ⟨n, hn⟩ := h0
  obtain ⟨a, h1, h2, h3⟩ := rdV n enc W 0 _ true n _ _ (Nat.le_refl _) hn
  unfold Value.okWide at hval
  simp only [Tryd.underlying25] at hval
  obtain ⟨cs, rfl, _⟩ := hval
  have h1' : RepL (Gh.of W) cs.toList a.d := h1
  exact ⟨a, h3 hr, .agg _ _ h1'.len h2 h1'.rep⟩
end Go.Proofs.YtmjendeigjdihaaDoor
/-
  The card of the law ValueChecks: it holds for every input.
-/
namespace Go.Proofs.YtmjendeigjdihaaDoor.valueChecks
open Go.ChangeShapes Go.WideShapes Go.ChangeAt Go.RowKit
set_option maxRecDepth 100000
set_option linter.unusedVariables false
set_option linter.unusedSimpArgs false

theorem laid_eq : Rows.valueChecksRow.laid = Rows.valueChecksRow.laid := rfl
theorem reads (os : Os) {H : Type} (enc : TypeId × Value → H) : ∃ places, DataW.whole enc Tryd.prog ((laidWorld os).forCall (fun _ _ => 0) ⟨#[], #[.agg #[.int .i64 0, .bool false, .int .i64 0, .string ByteArray.empty, .slice none 0 0, .slice none 0 0]], []⟩).memory Tryd.f3.params.toList Rows.valueChecksSpec.vars false #[.agg #[.int .i64 0, .bool false, .int .i64 0, .string ByteArray.empty, .slice none 0 0, .slice none 0 0]].toList 8 = some ([.agg [.lit (.int .i64 0), .lit (.bool false), .lit (.int .i64 0), .lit (.string []), .nil, .nil]], [], places) :=
  ⟨[], by kernel_rfl⟩
theorem contract (H : Type) (enc : TypeId × Value → H) (W : World) (base : Nat) (args : Array Value) (ds gs : List (DataW H)) (before : List MemPlace)
    (hval0 : ∀ (j : Nat) t v, Tryd.f3.params[j]? = some t → args[j]? = some v → Value.okWide Tryd.prog W .any base t v)
    (hW : DataW.Whole enc Tryd.prog Tryd.f3.params.toList Rows.valueChecksSpec.vars false W args.toList ds gs before)
    (hreach : (DataW.weightsEach Tryd.prog (Tryd.f3.params.toList ++ (OpenSpec.ofChange Rows.valueChecksSpec).bare.plain.varTypes Tryd.prog) (ds ++ gs)).all (· ≤ reachBytes) = true)
    (hLM : laidMetH Tryd.prog Rows.valueChecksRow.laid W) (hsh : W.ShapedOpen Tryd.prog) :
    Calls Tryd.prog 3 args W fun e W' => ∃ v, e = .returned v ∧ Rows.valueChecksSpec.post enc Tryd.prog Tryd.f3 false true false false W args v W' := by
  have hval : ∀ (j : Nat) t v, Tryd.f3.params[j]? = some t → args[j]? = some v → Value.okWide Tryd.prog W .any base t v := hval0
  have hW' := hW
  have hlt := hW.lt
  obtain ⟨p, q, hA0, hV, rfl, hfz, hnd⟩ := hW
  have hA : DataW.TrodAll enc Tryd.prog W 0 (fun _ => true) true Tryd.f3.params.toList args.toList ds p := hA0
  rw [Tryd.params3] at hA hval
  obtain ⟨v0, vs0, d0, ds0, p0, q0, hargs, rfl, rfl, h0, r0⟩ := trodAll_cons hA
  obtain ⟨rfl, rfl, rfl⟩ := trodAll_nil r0
  obtain rfl : args = #[v0] := by cases args; simp_all
  obtain ⟨rfl, rfl⟩ := trodVars_none hV
  obtain ⟨a0, o0, R0⟩ := argV (hval 0 25 v0 rfl rfl) h0 (reached_arg hreach (j := 0) rfl rfl)
  have C := valueChecksT a0 o0 .none W W (Gh.of W) _ (Sim.start W (baseOk_of hsh hLM)) ((RepL.nil _).cons R0)
  clear hA0 hval0
  refine C.mono fun e W' ⟨σ', G', _, hS, h4⟩ => ?_
  obtain ⟨v, d, he, hr, hd, _⟩ | ⟨_, _, hd⟩ := h4
  case inr => exact hd.elim
  subst hd
  obtain rfl : v = .bool true := hr.v_inv
  subst he
  have hg : Below W.heap.size W W' := hS.below
  have hin0 : ∀ p ∈ p0, p.block < W.heap.size := fun p hp => hlt p (by simp [hp])
  exact ⟨_, rfl, post_of_below (pv := []) hW' (fun _ _ _ => (trodAll_cons_mk (shut_bool Tryd.underlying4 _) trodAll_mk0))
    (fun sp hsp => (trodAll_cons_mk (WideElems.Trod_stays laidOut (by kernel_rfl) (of_decide_eq_true (by kernel_rfl)) h0 (fun p hp => below_sameAt hg (hin0 p hp)) (fun p hp => hsp p (by simp [hp]))) trodAll_mk0)) (fun _ _ => rfl) rfl
    hg (ok_one (by kernel_rfl) rfl (okWide_bool_mk Tryd.underlying4 _))⟩

theorem lifted (os : Os) (started : os.Started) (H : Type) (enc : TypeId × Value → H) (F : Stop.Interp) :
    ReturnsInHanded {} Tryd.checked os 3 .any ((OpenSpec.ofChange Rows.valueChecksSpec).preRow enc Tryd.prog Tryd.f3 Rows.valueChecksRow.domain false Rows.valueChecksRow.laid) (((OpenSpec.ofChange Rows.valueChecksSpec).at F).post enc Tryd.prog Tryd.f3 false true false false) := by
  obtain ⟨places, hx⟩ := reads os enc
  refine returnsInHanded_of_row (C := Tryd.checked) (s := OpenSpec.ofChange Rows.valueChecksSpec) own started (by kernel_rfl) Tryd.func3
    (witness_row_at (enc := enc) (C := Tryd.checked) false (laidWorld os) #[.agg #[.int .i64 0, .bool false, .int .i64 0, .string ByteArray.empty, .slice none 0 0, .slice none 0 0]] rfl (by kernel_rfl) (by kernel_rfl) (by kernel_rfl)
      (OpenSpec.preRow_of_cond 8 hx (by kernel_rfl) (fun k hk => by cases hk) (by kernel_rfl) (laid_met os _))) ?_
  intro W base args ds gs before hval hW _ _ hreach hL hsh _
  exact contract H enc W base args ds gs before hval hW hreach hL hsh

theorem said : Rows.ValueChecksSaid :=
  OpenClaim.holds_of_cond 3 Tryd.f3 rfl rfl rfl rfl rfl rfl rfl ⟨rfl, rfl, rfl, rfl, rfl⟩ rfl rfl rfl rfl rfl (by kernel_rfl) Tryd.func3 (by kernel_rfl)
    (of_decide_eq_true (by kernel_rfl)) (by unfold Func.isWrapper; first | (rw [if_pos (by decide +kernel)]; kernel_rfl) | (rw [if_neg (by decide +kernel)]; exact ⟨rfl, rfl⟩))
    (fun os started H enc _ F => by rw [OpenClaim.pre_eq_preRow]; exact lifted os started H enc F)

theorem plain (f : FuncId) (fn : Func) (hf : Tryd.pinned.checked.prog.funcNamed "enfilade/enfiladelaw01.ValueChecks" = some f) (hfn : Tryd.pinned.checked.prog.funcs[f]? = some fn) :
    true = Tryd.pinned.checked.prog.looks [] ∧ ∀ (j : Nat) t, fn.params[j]? = some t → Tryd.pinned.checked.prog.wantsStandIn t = false := by
  obtain rfl : f = 3 := Option.some.inj ((show Tryd.prog.funcNamed "enfilade/enfiladelaw01.ValueChecks" = some 3 by kernel_rfl).symm.trans hf) |>.symm
  obtain rfl : fn = Tryd.f3 := (Option.some.inj (Tryd.func3.symm.trans hfn)).symm
  refine ⟨by kernel_rfl, fun j t ht => ?_⟩
  rw [Tryd.params3] at ht
  have h2 : t = 25 := by simpa using Array.mem_of_getElem? ht
  subst h2
  exact (show Tryd.prog.wantsStandIn 25 = false by kernel_rfl)

theorem proved : Rows.ValueChecksCardSaid :=
  Claim7.holds_tied_plain_at .later [] _ _ _ _ said (fun _ h => by cases h) (by kernel_rfl) (fun _ h => by cases h) valueChecks_row_tie rfl ⟨rfl, rfl⟩ (by kernel_rfl) rfl plain (by kernel_rfl)
#print axioms proved
end Go.Proofs.YtmjendeigjdihaaDoor.valueChecks
