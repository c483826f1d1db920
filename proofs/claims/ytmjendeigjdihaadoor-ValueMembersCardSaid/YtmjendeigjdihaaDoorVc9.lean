/- Part 9 of the proof of CardValueChecks: V8 V13 ErrIs ErrAs ErrAsFault ErrIsFault. -/
import Derived.Test.YtmjendeigjdihaaDoorVc6
import Derived.Test.YtmjendeigjdihaaDoorVc8
import Derived.Test.YtmjendeigjdihaaDoorRows
import Derived.WalkKit
import Derived.LaidEql
import Derived.Stop.Asserts
import Derived.RowKitTokens
import Derived.Lib.Hide
import Derived.Test.YtmjendeigjdihaaDoorVc1
/-
  What is wrong with a value (chapter 1): the document's.
-/
namespace Go.Proofs.YtmjendeigjdihaaDoor
open Go.RowKit
set_option maxRecDepth 100000
set_option linter.unusedVariables false
set_option linter.unusedSimpArgs false
attribute [local irreducible] awp aops aop aput aseq ablock TriX Tri Ret Fresh dq adraw dtail dals dfin Wk
attribute [local simp] ErT.d
@[local simp] theorem err_code (c : Int) : (ErT.err c).code = c := rfl
@[local simp] theorem err_at (c : Int) : (ErT.err c).at_ = -1 := rfl
@[local simp] theorem err_path (c : Int) : (ErT.err c).path = ByteArray.empty := rfl

set_option maxHeartbeats 8000000 in
theorem refCheckT (v : V) (deep : Nat) (hd : deep ≤ 20) (σ : St) (hv : v.ok) (di : Int) (hdi : di = deep) : Tri Tryd.prog 40 [.agg v.d, .i di] σ fun d τ => d = .agg (v.chk deep).d ∧ τ = σ := by
  obtain ⟨N, hN⟩ : ∃ N, N = v.w := ⟨_, rfl⟩
  induction N using Nat.strongRecOn generalizing v σ deep di with
  | _ N ih =>
    obtain ⟨kd, y, i, t, l, m⟩ := v
    subst hN
    rw [V.w] at ih
    rw [V.ok] at hv
    obtain ⟨ht, hl, hm, hls, hms⟩ := hv
    have IL := Lib.hid (fun (x : V) (hx : x ∈ l) (hlt : deep < 20) (σ : St) => ih x.w (by have := V.ws_mem hx; omega) x (deep + 1) (by omega) σ (V.oks_mem hls hx) ((deep : Int) + 1) (by omega) rfl)
    have IM := Lib.hid (fun (x : ByteArray × V) (hx : x ∈ m) (hlt : deep < 20) (σ : St) => ih x.2.w (by have := V.wm_mem hx; omega) x.2 (deep + 1) (by omega) σ (V.okm_mem hms hx).2 ((deep : Int) + 1) (by omega) rfl)
    have PL := Lib.hid (fun (x : V) (hx : x ∈ l) (hlt : deep < 20) => V.chk_path x (deep + 1) (by omega) (V.oks_mem hls hx))
    have PM := Lib.hid (fun (x : ByteArray × V) (hx : x ∈ m) (hlt : deep < 20) => V.chk_path x.2 (deep + 1) (by omega) (V.okm_mem hms hx).2)
    have KM := Lib.hid (fun (x : ByteArray × V) (hx : x ∈ m) => (V.okm_mem hms hx).1)
    have HRES := Lib.hid (V.chk.eq_1 deep kd y i t l m)
    clear ih hls hms
    subst hdi
    have U := Lib.hid (utf8T t (by omega))
    rw [V.d, V.ds_map, V.dm_map]
    refine tri_fn Tryd.func40 rfl Tryd.ntmps40 Tryd.results40 (Nat.le_of_ble_eq_true rfl) ?_
    by_cases h0 : kd = 0
    · subst h0
      refine' wlk1 noneT
      ((try simp [*]); (try simp (discharger := omega) only [wrap_i64, dec_t, dec_f]))
      exact .mk _ σ (.refl _) leT ⟨(by rw [HRES.out, if_pos (by decide)]; try rfl), rfl⟩
    by_cases h1 : kd = 1
    · subst h1
      refine' wlk1 noneT
      ((try simp [*]); (try simp (discharger := omega) only [wrap_i64, dec_t, dec_f]))
      exact .mk _ σ (.refl _) leT ⟨(by rw [HRES.out, if_pos (by decide)]; try rfl), rfl⟩
    have h01 : ¬ (kd = 0 ∨ kd = 1) := by omega
    have H01 := Lib.hid h01
    clear h01
    by_cases h2 : kd = 2
    · subst h2
      by_cases a1 : 9007199254740991 < i
      · refine' wlk1 (errT 4)
        ((try simp [*]); (try simp (discharger := omega) only [wrap_i64, dec_t, dec_f]))
        exact .mk _ σ (.refl _) leT ⟨(by rw [HRES.out, if_neg H01.out, if_pos rfl, if_pos (.inl a1)]; try rfl), rfl⟩
      by_cases a2 : i < -9007199254740991
      · refine' wlk1 (errT 4)
        ((try simp [*]); (try simp (discharger := omega) only [wrap_i64, dec_t, dec_f]))
        exact .mk _ σ (.refl _) leT ⟨(by rw [HRES.out, if_neg H01.out, if_pos rfl, if_pos (.inr a2)]; try rfl), rfl⟩
      refine' wlk1 noneT
      ((try simp [*]); (try simp (discharger := omega) only [wrap_i64, dec_t, dec_f]))
      exact .mk _ σ (.refl _) leT ⟨(by rw [HRES.out, if_neg H01.out, if_pos rfl, if_neg (by omega)]; try rfl), rfl⟩
    by_cases h3 : kd = 3
    · subst h3
      have h32 : ¬ (3 : Int) = 2 := by decide
      by_cases a1 : utf8B t = true
      · refine' wlk2 noneT U.out
        ((try simp [*]); (try simp (discharger := omega) only [wrap_i64, dec_t, dec_f]))
        exact .mk _ σ (.refl _) leT ⟨(by rw [HRES.out, if_neg H01.out, if_neg h32, if_pos rfl, if_pos a1]; try rfl), rfl⟩
      · have a2 : utf8B t = false := by simpa using a1
        refine' wlk2 (errT 5) U.out
        ((try simp [*]); (try simp (discharger := omega) only [wrap_i64, dec_t, dec_f]))
        exact .mk _ σ (.refl _) leT ⟨(by rw [HRES.out, if_neg H01.out, if_neg h32, if_pos rfl, if_neg a1]; try rfl), rfl⟩
    by_cases h4 : kd = 4
    · subst h4
      by_cases hd20 : deep = 20
      · subst hd20
        refine' wlk1 (errT 3)
        ((try simp [*]); (try simp (discharger := omega) only [wrap_i64, dec_t, dec_f]))
        exact .mk _ σ (.refl _) leT ⟨(by rw [HRES.out, if_neg H01.out, if_neg h2, if_neg h3, if_pos rfl, if_pos rfl]; try rfl), rfl⟩
      have hd20' : ¬ (deep : Int) = 20 := by omega
      have hlt20 : deep < 20 := by omega
      replace HRES := Lib.hid (show (V.mk 4 y i t l m).chk deep = V.chkL l (deep + 1) 0 by rw [HRES.out, if_neg H01.out, if_neg h2, if_neg h3, if_pos rfl, if_neg hd20])
      clear h0 h1 h2 h3 hd20
      refine' wlk0
      refine' gen2S
      refine awp_loopM [5, 6, 43, 44, 45, 46, 47, 48, 49, 50, 51, 52, 53, 54, 55, 56, 57, 58, 59, 60, 61] (fun X τ => ∃ k : Nat, k ≤ l.length ∧ X 43 = .i k ∧ V.chkL l (deep + 1) 0 = V.chkL (l.drop k) (deep + 1) k ∧ τ = σ1) (fun X _ => l.length - (X 43).int.toNat) ?_ ?_
      · refine .same ⟨mix_self _ _, 0, by omega, ?_, by rw [List.drop_zero], rfl⟩
        simp [*]
      · rintro X τ ⟨k, hk, h43, he, rfl⟩ _ hL
        have HE := Lib.hid he
        clear he
        by_cases hlt : k < l.length
        · have IH := Lib.hid (IL.out l[k] (List.getElem_mem hlt) hlt20)
          have hp := Lib.hid (PL.out l[k] (List.getElem_mem hlt) hlt20)
          have hst := Lib.hid (V.chkL_drop hlt (deep + 1))
          obtain ⟨e, he⟩ : ∃ e, l[k].chk (deep + 1) = e := ⟨_, rfl⟩
          rw [he] at IH hp hst
          clear he
          have hdig := Lib.hid (digitsT k (by omega))
          have hds := digB_size k (by omega)
          by_cases hc : e.code = 0
          · refine' wlk1 IH.out
            refine hL.out _ _ (.less τ leT (.same ⟨mixT, ⟨k + 1, by omega, ?_, ?_, rfl⟩, ?_⟩))
            · simp [*]
            · rw [HE.out, hst.out, if_pos hc]
            · simp [*, D.int]; omega
          · refine' wlk1 IH.out
            (refine awp_draw (fun KS EG hK hP => ?_); refine draw_rule rfl [(0, true), (1, false), (2, false), (3, false)] [] [4] (by kernel_rfl) ?_; repeat (first | ((first | refine dq_pu rfl ?_ | refine dq_rd rfl ?_ | (refine dq_gTp rfl rfl ?_ ?_; (focus (simp [*]; done))) | (refine dq_gTr rfl rfl ?_ ?_; (focus (simp [*]; done)))); constructor; refine And.intro (fun _ _ hO => ?_) ?_; (focus (simp [*]; (try simp (discharger := omega) only [wrap_i64, dec_t, dec_f]); (first | ((try (first | refine .inl ⟨?_, by omega, by omega⟩ | refine ⟨by omega, by omega, ?_⟩ | refine ⟨by omega, ?_⟩ | refine .inl ?_)); exact hO.out _ _ (.refl _) (St.le_refl _)) | ((first | refine Tri.call (hdig.out _) ?_ | refine Tri.call (inT (digB k) e _ (by have := hp.out; omega)) ?_); rintro _ _ ⟨rfl, h9⟩; replace h9 := h9.symm; subst h9; exact hO.out _ _ (.refl _) (St.le_refl _)) | exact .inr ⟨(hdig.out _), hO.out _ _ (.refl _) (St.le_refl _)⟩ | exact .inl ⟨(hdig.out _), hO.out _ _ (.refl _) (St.le_refl _)⟩ | exact ⟨_, (hdig.out _), hO.out _ _ (.refl _) (St.le_refl _)⟩ | exact .inr ⟨(inT (digB k) e _ (by have := hp.out; omega)), hO.out _ _ (.refl _) (St.le_refl _)⟩ | exact .inl ⟨(inT (digB k) e _ (by have := hp.out; omega)), hO.out _ _ (.refl _) (St.le_refl _)⟩ | exact ⟨_, (inT (digB k) e _ (by have := hp.out; omega)), hO.out _ _ (.refl _) (St.le_refl _)⟩))); (first | refine aput_some (by decide) ?_ | refine aput_none ?_)) | ((first | (refine dq_gF rfl rfl ?_ ?_; (focus (simp [*]; done))) | (refine dq_gU rfl rfl ?_ ?_; (focus (simp [*]; done)))); (first | refine aput_some (by decide) ?_ | refine aput_none ?_)) | refine dq_nil ?_ | refine dtail_none ?_ | refine dtail_some ?_ | refine dals_alloc rfl (by decide) (by simp; rfl) ?_ | refine dals_box rfl (by decide) (by simp [*]; rfl) ?_  | (refine dals_arrO rfl (by decide) (by first | rfl | simp) (by simp) (by intro σ'; simp [*]; exact hdig.out _ σ') (by first | assumption | simp) ?_) | (refine dals_arrO rfl (by decide) (by first | rfl | simp) (by simp) (by intro σ'; simp [*]; exact inT (digB k) e _ (by have := hp.out; omega) σ') (by first | assumption | simp) ?_) | refine dals_nil ?_ | refine dfin_nil ?_ | (refine dfin_cons rfl ?_; simp only [fresh_set, ne_eq, and_assoc]; intro b8 c8 hf8 hc8; (try subst hc8); (repeat (obtain ⟨_, hf8⟩ := hf8))) | (refine aops_idx rfl (fun K9 hO => ?_); simp [*]; (try simp (discharger := omega) only [wrap_i64, dec_t, dec_f]); (first | ((try (first | refine .inl ⟨by omega, by omega, ?_⟩ | refine ⟨by omega, by omega, ?_⟩ | refine ⟨by omega, ?_⟩ | refine .inl ?_)); (first | (intro b; intros; refine hO.out _ _ ?_) | refine hO.out _ _ ?_)) | ((first | refine Tri.call (hdig.out _) ?_ | refine Tri.call (inT (digB k) e _ (by have := hp.out; omega)) ?_); (first | rintro _ _ ⟨rfl, h9⟩; replace h9 := h9.symm; subst h9 | rintro _ _ ⟨_, rfl, rfl⟩ | rintro _ _ ⟨_, _, rfl, rfl⟩ | rintro _ _ ⟨_, _, _, rfl, rfl⟩); refine hO.out _ _ ?_)); clear hO; (try clear K9); (first | refine aput_some (by decide) ?_ | refine aput_none ?_)) | refine aops_end ?_ | ((repeat ((fail_if_success (refine hK.out _ _ ?_)); clear hK; (try clear hP EG); (try clear KS))); refine hK.out _ _ ?_; clear hK; (try clear hP EG); try clear KS)))
            refine' wlk0
            ((try simp [*]); (try simp (discharger := omega) only [wrap_i64, dec_t, dec_f]))
            exact .mk _ σ (.refl _) leT ⟨(by rw [HRES.out, HE.out, hst.out, if_neg hc]; try rfl), rfl⟩
        · have hke : k = l.length := by omega
          subst hke
          refine' wlk1 noneT
          ((try simp [*]); (try simp (discharger := omega) only [wrap_i64, dec_t, dec_f]))
          exact .mk _ σ (.refl _) leT ⟨(by rw [HRES.out, HE.out, List.drop_length, V.chkL]; try rfl), rfl⟩
    by_cases h5 : kd = 5
    · subst h5
      by_cases hd20 : deep = 20
      · subst hd20
        refine' wlk1 (errT 3)
        ((try simp [*]); (try simp (discharger := omega) only [wrap_i64, dec_t, dec_f]))
        exact .mk _ σ (.refl _) leT ⟨(by rw [HRES.out, if_neg H01.out, if_neg h2, if_neg h3, if_neg h4, if_pos rfl, if_pos rfl]; try rfl), rfl⟩
      have hd20' : ¬ (deep : Int) = 20 := by omega
      have hlt20 : deep < 20 := by omega
      replace HRES := Lib.hid (show (V.mk 5 y i t l m).chk deep = V.chkM m (deep + 1) none by rw [HRES.out, if_neg H01.out, if_neg h2, if_neg h3, if_neg h4, if_pos rfl, if_neg hd20])
      clear h0 h1 h2 h3 h4 hd20
      refine' wlk0
      refine' gen2S
      refine awp_loopM [7, 8, 71, 72, 73, 74, 75, 76, 77, 78, 79, 80, 81, 82, 83, 84, 85, 86, 87, 88, 89, 90, 91, 92, 93, 94, 95, 96, 97, 98, 99, 100, 101, 102, 103, 104, 105, 106, 107, 108, 109, 110, 111, 112, 113, 114, 115, 116, 117, 118, 119, 120, 121, 122, 123, 124, 125, 126, 127, 128, 129, 130, 131, 132, 133, 134, 135, 136, 137, 138, 139, 140, 141] (fun X τ => ∃ k : Nat, k ≤ m.length ∧ X 71 = .i k ∧ V.chkM m (deep + 1) none = V.chkM (m.drop k) (deep + 1) (prevK m k) ∧ τ = σ1) (fun X _ => m.length - (X 71).int.toNat) ?_ ?_
      · refine .same ⟨mix_self _ _, 0, by omega, ?_, by rw [List.drop_zero]; rfl, rfl⟩
        simp [*]
      · rintro X τ ⟨k, hk, h71, he, rfl⟩ _ hL
        have HE := Lib.hid he
        clear he
        by_cases hlt : k < m.length
        · have IH := Lib.hid (IM.out m[k] (List.getElem_mem hlt) hlt20)
          have hp := Lib.hid (PM.out m[k] (List.getElem_mem hlt) hlt20)
          have hkey := KM.out m[k] (List.getElem_mem hlt)
          have UK := Lib.hid (utf8T m[k].1 (by omega))
          have hst := Lib.hid (V.chkM_drop hlt (deep + 1) (prevK m k))
          obtain ⟨e, he⟩ : ∃ e, m[k].2.chk (deep + 1) = e := ⟨_, rfl⟩
          rw [he] at IH hp hst
          clear he
          rcases k with _ | k
          · by_cases hu : utf8B m[0].1 = true
            · have HM := Lib.hid (show memE (prevK m 0) m[0].1 e = e by unfold memE; rw [if_neg (by rw [hu]; decide)]; rfl)
              by_cases hc : e.code = 0
              · refine' wlk5 IH.out UK.out (errT 1) (errT 5) (errT 6)
                (refine awp_draw (fun KS EG hK hP => ?_); refine draw_rule rfl [(0, true), (1, true), (2, true), (3, true), (4, false), (5, true), (6, true), (7, true), (8, false), (9, true), (10, false), (11, true), (12, true), (13, true), (14, true), (15, false), (16, true), (17, true)] [] [] (by kernel_rfl) ?_; refine' dqs0)
                refine' wlk5 IH.out UK.out (errT 1) (errT 5) (errT 6)
                (refine awp_draw (fun KS EG hK hP => ?_); refine draw_rule rfl [(0, true), (1, true), (2, true), (3, true), (4, false), (5, true), (6, true), (7, true), (8, false), (9, true), (10, false), (11, true), (12, true), (13, true), (14, true), (15, false), (16, true), (17, true)] [] [] (by kernel_rfl) ?_; refine' dqs0)
                refine' wlk5 IH.out UK.out (errT 1) (errT 5) (errT 6)
                refine hL.out _ _ (.less τ leT (.same ⟨mixT, ⟨0 + 1, by omega, ?_, ?_, rfl⟩, ?_⟩))
                · simp [*]
                · rw [HE.out, hst.out, HM.out, if_pos hc, prevK_succ hlt]
                · simp [*, D.int]; omega
              · refine' wlk5 IH.out UK.out (errT 1) (errT 5) (errT 6)
                (refine awp_draw (fun KS EG hK hP => ?_); refine draw_rule rfl [(0, true), (1, true), (2, true), (3, true), (4, false), (5, true), (6, true), (7, true), (8, false), (9, true), (10, false), (11, true), (12, true), (13, true), (14, true), (15, false), (16, true), (17, true)] [] [] (by kernel_rfl) ?_; refine' dqs0)
                refine' wlk5 IH.out UK.out (errT 1) (errT 5) (errT 6)
                (refine awp_draw (fun KS EG hK hP => ?_); refine draw_rule rfl [(0, true), (1, true), (2, true), (3, true), (4, false), (5, true), (6, true), (7, true), (8, false), (9, true), (10, false), (11, true), (12, true), (13, true), (14, true), (15, false), (16, true), (17, true)] [] [] (by kernel_rfl) ?_; refine' dqs0)
                refine' wlk5 IH.out UK.out (errT 1) (errT 5) (errT 6)
                (refine awp_draw (fun KS EG hK hP => ?_); refine draw_rule rfl [(0, true), (1, false), (2, true), (3, true), (4, true), (5, false), (6, false), (7, false)] [] [8] (by kernel_rfl) ?_; repeat (first | ((first | refine dq_pu rfl ?_ | refine dq_rd rfl ?_ | (refine dq_gTp rfl rfl ?_ ?_; (focus (simp [*]; done))) | (refine dq_gTr rfl rfl ?_ ?_; (focus (simp [*]; done)))); constructor; refine And.intro (fun _ _ hO => ?_) ?_; (focus (simp [*]; (try simp (discharger := omega) only [wrap_i64, dec_t, dec_f]); (first | ((try (first | refine .inl ⟨?_, by omega, by omega⟩ | refine ⟨by omega, by omega, ?_⟩ | refine ⟨by omega, ?_⟩ | refine .inl ?_)); exact hO.out _ _ (.refl _) (St.le_refl _)) | ((first | refine Tri.call (inT m[0].1 e _ (by have := hp.out; omega)) ?_); rintro _ _ ⟨rfl, h9⟩; replace h9 := h9.symm; subst h9; exact hO.out _ _ (.refl _) (St.le_refl _)) | exact .inr ⟨(inT m[0].1 e _ (by have := hp.out; omega)), hO.out _ _ (.refl _) (St.le_refl _)⟩ | exact .inl ⟨(inT m[0].1 e _ (by have := hp.out; omega)), hO.out _ _ (.refl _) (St.le_refl _)⟩ | exact ⟨_, (inT m[0].1 e _ (by have := hp.out; omega)), hO.out _ _ (.refl _) (St.le_refl _)⟩))); (first | refine aput_some (by decide) ?_ | refine aput_none ?_)) | ((first | (refine dq_gF rfl rfl ?_ ?_; (focus (simp [*]; done))) | (refine dq_gU rfl rfl ?_ ?_; (focus (simp [*]; done)))); (first | refine aput_some (by decide) ?_ | refine aput_none ?_)) | refine dq_nil ?_ | refine dtail_none ?_ | refine dtail_some ?_ | refine dals_alloc rfl (by decide) (by simp; rfl) ?_ | refine dals_box rfl (by decide) (by simp [*]; rfl) ?_  | (refine dals_arrO rfl (by decide) (by first | rfl | simp) (by simp) (by intro σ'; simp [*]; exact inT m[0].1 e _ (by have := hp.out; omega) σ') (by first | assumption | simp) ?_) | refine dals_nil ?_ | refine dfin_nil ?_ | (refine dfin_cons rfl ?_; simp only [fresh_set, ne_eq, and_assoc]; intro b8 c8 hf8 hc8; (try subst hc8); (repeat (obtain ⟨_, hf8⟩ := hf8))) | (refine aops_idx rfl (fun K9 hO => ?_); simp [*]; (try simp (discharger := omega) only [wrap_i64, dec_t, dec_f]); (first | ((try (first | refine .inl ⟨by omega, by omega, ?_⟩ | refine ⟨by omega, by omega, ?_⟩ | refine ⟨by omega, ?_⟩ | refine .inl ?_)); (first | (intro b; intros; refine hO.out _ _ ?_) | refine hO.out _ _ ?_)) | ((first | refine Tri.call (inT m[0].1 e _ (by have := hp.out; omega)) ?_); (first | rintro _ _ ⟨rfl, h9⟩; replace h9 := h9.symm; subst h9 | rintro _ _ ⟨_, rfl, rfl⟩ | rintro _ _ ⟨_, _, rfl, rfl⟩ | rintro _ _ ⟨_, _, _, rfl, rfl⟩); refine hO.out _ _ ?_)); clear hO; (try clear K9); (first | refine aput_some (by decide) ?_ | refine aput_none ?_)) | refine aops_end ?_ | ((repeat ((fail_if_success (refine hK.out _ _ ?_)); clear hK; (try clear hP EG); (try clear KS))); refine hK.out _ _ ?_; clear hK; (try clear hP EG); try clear KS)))
                refine' wlk0
                ((try simp [*]); (try simp (discharger := omega) only [wrap_i64, dec_t, dec_f]))
                exact .mk _ σ (.refl _) leT ⟨(by rw [HRES.out, HE.out, hst.out, HM.out, if_neg hc]; try rfl), rfl⟩
            · replace hu : utf8B m[0].1 = false := by simpa using hu
              have HM := Lib.hid (show memE (prevK m 0) m[0].1 e = ErT.err 5 by unfold memE; rw [if_pos hu])
              refine' wlk5 IH.out UK.out (errT 1) (errT 5) (errT 6)
              (refine awp_draw (fun KS EG hK hP => ?_); refine draw_rule rfl [(0, true), (1, true), (2, true), (3, true), (4, false), (5, true), (6, true), (7, true), (8, false), (9, true), (10, false), (11, true), (12, true), (13, true), (14, true), (15, false), (16, true), (17, true)] [] [] (by kernel_rfl) ?_; refine' dqs0)
              refine' wlk5 IH.out UK.out (errT 1) (errT 5) (errT 6)
              (refine awp_draw (fun KS EG hK hP => ?_); refine draw_rule rfl [(0, true), (1, true), (2, true), (3, true), (4, false), (5, true), (6, true), (7, true), (8, false), (9, true), (10, false), (11, true), (12, true), (13, true), (14, true), (15, false), (16, true), (17, true)] [] [] (by kernel_rfl) ?_; refine' dqs0)
              refine' wlk5 IH.out UK.out (errT 1) (errT 5) (errT 6)
              (refine awp_draw (fun KS EG hK hP => ?_); refine draw_rule rfl [(0, true), (1, false), (2, true), (3, true), (4, true), (5, false), (6, false), (7, false)] [] [8] (by kernel_rfl) ?_; repeat (first | ((first | refine dq_pu rfl ?_ | refine dq_rd rfl ?_ | (refine dq_gTp rfl rfl ?_ ?_; (focus (simp [*]; done))) | (refine dq_gTr rfl rfl ?_ ?_; (focus (simp [*]; done)))); constructor; refine And.intro (fun _ _ hO => ?_) ?_; (focus (simp [*]; (try simp (discharger := omega) only [wrap_i64, dec_t, dec_f]); (first | ((try (first | refine .inl ⟨?_, by omega, by omega⟩ | refine ⟨by omega, by omega, ?_⟩ | refine ⟨by omega, ?_⟩ | refine .inl ?_)); exact hO.out _ _ (.refl _) (St.le_refl _)) | ((first | refine Tri.call (inT m[0].1 (ErT.err 5) _ (by have : (ErT.err 5).path.size = 0 := rfl; omega)) ?_); rintro _ _ ⟨rfl, h9⟩; replace h9 := h9.symm; subst h9; exact hO.out _ _ (.refl _) (St.le_refl _)) | exact .inr ⟨(inT m[0].1 (ErT.err 5) _ (by have : (ErT.err 5).path.size = 0 := rfl; omega)), hO.out _ _ (.refl _) (St.le_refl _)⟩ | exact .inl ⟨(inT m[0].1 (ErT.err 5) _ (by have : (ErT.err 5).path.size = 0 := rfl; omega)), hO.out _ _ (.refl _) (St.le_refl _)⟩ | exact ⟨_, (inT m[0].1 (ErT.err 5) _ (by have : (ErT.err 5).path.size = 0 := rfl; omega)), hO.out _ _ (.refl _) (St.le_refl _)⟩))); (first | refine aput_some (by decide) ?_ | refine aput_none ?_)) | ((first | (refine dq_gF rfl rfl ?_ ?_; (focus (simp [*]; done))) | (refine dq_gU rfl rfl ?_ ?_; (focus (simp [*]; done)))); (first | refine aput_some (by decide) ?_ | refine aput_none ?_)) | refine dq_nil ?_ | refine dtail_none ?_ | refine dtail_some ?_ | refine dals_alloc rfl (by decide) (by simp; rfl) ?_ | refine dals_box rfl (by decide) (by simp [*]; rfl) ?_  | (refine dals_arrO rfl (by decide) (by first | rfl | simp) (by simp) (by intro σ'; simp [*]; exact inT m[0].1 (ErT.err 5) _ (by have : (ErT.err 5).path.size = 0 := rfl; omega) σ') (by first | assumption | simp) ?_) | refine dals_nil ?_ | refine dfin_nil ?_ | (refine dfin_cons rfl ?_; simp only [fresh_set, ne_eq, and_assoc]; intro b8 c8 hf8 hc8; (try subst hc8); (repeat (obtain ⟨_, hf8⟩ := hf8))) | (refine aops_idx rfl (fun K9 hO => ?_); simp [*]; (try simp (discharger := omega) only [wrap_i64, dec_t, dec_f]); (first | ((try (first | refine .inl ⟨by omega, by omega, ?_⟩ | refine ⟨by omega, by omega, ?_⟩ | refine ⟨by omega, ?_⟩ | refine .inl ?_)); (first | (intro b; intros; refine hO.out _ _ ?_) | refine hO.out _ _ ?_)) | ((first | refine Tri.call (inT m[0].1 (ErT.err 5) _ (by have : (ErT.err 5).path.size = 0 := rfl; omega)) ?_); (first | rintro _ _ ⟨rfl, h9⟩; replace h9 := h9.symm; subst h9 | rintro _ _ ⟨_, rfl, rfl⟩ | rintro _ _ ⟨_, _, rfl, rfl⟩ | rintro _ _ ⟨_, _, _, rfl, rfl⟩); refine hO.out _ _ ?_)); clear hO; (try clear K9); (first | refine aput_some (by decide) ?_ | refine aput_none ?_)) | refine aops_end ?_ | ((repeat ((fail_if_success (refine hK.out _ _ ?_)); clear hK; (try clear hP EG); (try clear KS))); refine hK.out _ _ ?_; clear hK; (try clear hP EG); try clear KS)))
              refine' wlk0
              ((try simp [*]); (try simp (discharger := omega) only [wrap_i64, dec_t, dec_f]))
              exact .mk _ σ (.refl _) leT ⟨(by rw [HRES.out, HE.out, hst.out, HM.out, if_neg (by decide)]; try rfl), rfl⟩
          · have hkk : k < m.length := by omega
            have hi1 : (k : Int) + 1 < m.length := by omega
            have hi0 : (0 : Int) ≤ (k : Int) + 1 := by omega
            have hi2 : (k : Int) < m.length := by omega
            by_cases hu : utf8B m[k + 1].1 = true
            · by_cases hq : m[k + 1].1 = m[k].1
              · rw [hq] at UK hkey hu hst
                by_cases hlss : Op.bytesLess m[k].1.toList m[k].1.toList = true
                · have HM := Lib.hid (show memE (prevK m (k + 1)) m[k].1 e = ErT.err 6 by rw [prevK_succ hkk]; unfold memE; rw [if_neg (by rw [hu]; decide)]; exact if_pos rfl)
                  refine' wlk5 IH.out UK.out (errT 1) (errT 5) (errT 6)
                  (refine awp_draw (fun KS EG hK hP => ?_); refine draw_rule rfl [(0, true), (1, true), (2, true), (3, true), (4, false), (5, true), (6, true), (7, true), (8, false), (9, true), (10, false), (11, true), (12, true), (13, true), (14, true), (15, false), (16, true), (17, true)] [] [] (by kernel_rfl) ?_; refine' dqs0)
                  refine' wlk5 IH.out UK.out (errT 1) (errT 5) (errT 6)
                  (refine awp_draw (fun KS EG hK hP => ?_); refine draw_rule rfl [(0, true), (1, true), (2, true), (3, true), (4, false), (5, true), (6, true), (7, true), (8, false), (9, true), (10, false), (11, true), (12, true), (13, true), (14, true), (15, false), (16, true), (17, true)] [] [] (by kernel_rfl) ?_; refine' dqs0)
                  refine' wlk5 IH.out UK.out (errT 1) (errT 5) (errT 6)
                  (refine awp_draw (fun KS EG hK hP => ?_); refine draw_rule rfl [(0, true), (1, false), (2, true), (3, true), (4, true), (5, false), (6, false), (7, false)] [] [8] (by kernel_rfl) ?_; repeat (first | ((first | refine dq_pu rfl ?_ | refine dq_rd rfl ?_ | (refine dq_gTp rfl rfl ?_ ?_; (focus (simp [*]; done))) | (refine dq_gTr rfl rfl ?_ ?_; (focus (simp [*]; done)))); constructor; refine And.intro (fun _ _ hO => ?_) ?_; (focus (simp [*]; (try simp (discharger := omega) only [wrap_i64, dec_t, dec_f]); (first | ((try (first | refine .inl ⟨?_, by omega, by omega⟩ | refine ⟨by omega, by omega, ?_⟩ | refine ⟨by omega, ?_⟩ | refine .inl ?_)); exact hO.out _ _ (.refl _) (St.le_refl _)) | ((first | refine Tri.call (inT m[k].1 (ErT.err 6) _ (by have : (ErT.err 6).path.size = 0 := rfl; omega)) ?_); rintro _ _ ⟨rfl, h9⟩; replace h9 := h9.symm; subst h9; exact hO.out _ _ (.refl _) (St.le_refl _)) | exact .inr ⟨(inT m[k].1 (ErT.err 6) _ (by have : (ErT.err 6).path.size = 0 := rfl; omega)), hO.out _ _ (.refl _) (St.le_refl _)⟩ | exact .inl ⟨(inT m[k].1 (ErT.err 6) _ (by have : (ErT.err 6).path.size = 0 := rfl; omega)), hO.out _ _ (.refl _) (St.le_refl _)⟩ | exact ⟨_, (inT m[k].1 (ErT.err 6) _ (by have : (ErT.err 6).path.size = 0 := rfl; omega)), hO.out _ _ (.refl _) (St.le_refl _)⟩))); (first | refine aput_some (by decide) ?_ | refine aput_none ?_)) | ((first | (refine dq_gF rfl rfl ?_ ?_; (focus (simp [*]; done))) | (refine dq_gU rfl rfl ?_ ?_; (focus (simp [*]; done)))); (first | refine aput_some (by decide) ?_ | refine aput_none ?_)) | refine dq_nil ?_ | refine dtail_none ?_ | refine dtail_some ?_ | refine dals_alloc rfl (by decide) (by simp; rfl) ?_ | refine dals_box rfl (by decide) (by simp [*]; rfl) ?_  | (refine dals_arrO rfl (by decide) (by first | rfl | simp) (by simp) (by intro σ'; simp [*]; exact inT m[k].1 (ErT.err 6) _ (by have : (ErT.err 6).path.size = 0 := rfl; omega) σ') (by first | assumption | simp) ?_) | refine dals_nil ?_ | refine dfin_nil ?_ | (refine dfin_cons rfl ?_; simp only [fresh_set, ne_eq, and_assoc]; intro b8 c8 hf8 hc8; (try subst hc8); (repeat (obtain ⟨_, hf8⟩ := hf8))) | (refine aops_idx rfl (fun K9 hO => ?_); simp [*]; (try simp (discharger := omega) only [wrap_i64, dec_t, dec_f]); (first | ((try (first | refine .inl ⟨by omega, by omega, ?_⟩ | refine ⟨by omega, by omega, ?_⟩ | refine ⟨by omega, ?_⟩ | refine .inl ?_)); (first | (intro b; intros; refine hO.out _ _ ?_) | refine hO.out _ _ ?_)) | ((first | refine Tri.call (inT m[k].1 (ErT.err 6) _ (by have : (ErT.err 6).path.size = 0 := rfl; omega)) ?_); (first | rintro _ _ ⟨rfl, h9⟩; replace h9 := h9.symm; subst h9 | rintro _ _ ⟨_, rfl, rfl⟩ | rintro _ _ ⟨_, _, rfl, rfl⟩ | rintro _ _ ⟨_, _, _, rfl, rfl⟩); refine hO.out _ _ ?_)); clear hO; (try clear K9); (first | refine aput_some (by decide) ?_ | refine aput_none ?_)) | refine aops_end ?_ | ((repeat ((fail_if_success (refine hK.out _ _ ?_)); clear hK; (try clear hP EG); (try clear KS))); refine hK.out _ _ ?_; clear hK; (try clear hP EG); try clear KS)))
                  refine' wlk0
                  ((try simp [*]); (try simp (discharger := omega) only [wrap_i64, dec_t, dec_f]))
                  exact .mk _ σ (.refl _) leT ⟨(by rw [HRES.out, HE.out, hst.out, HM.out, if_neg (by decide)]; try rfl), rfl⟩
                · replace hlss : Op.bytesLess m[k].1.toList m[k].1.toList = false := by simpa using hlss
                  have HM := Lib.hid (show memE (prevK m (k + 1)) m[k].1 e = ErT.err 6 by rw [prevK_succ hkk]; unfold memE; rw [if_neg (by rw [hu]; decide)]; exact if_pos rfl)
                  refine' wlk5 IH.out UK.out (errT 1) (errT 5) (errT 6)
                  (refine awp_draw (fun KS EG hK hP => ?_); refine draw_rule rfl [(0, true), (1, true), (2, true), (3, true), (4, false), (5, true), (6, true), (7, true), (8, false), (9, true), (10, false), (11, true), (12, true), (13, true), (14, true), (15, false), (16, true), (17, true)] [] [] (by kernel_rfl) ?_; refine' dqs0)
                  refine' wlk5 IH.out UK.out (errT 1) (errT 5) (errT 6)
                  (refine awp_draw (fun KS EG hK hP => ?_); refine draw_rule rfl [(0, true), (1, true), (2, true), (3, true), (4, false), (5, true), (6, true), (7, true), (8, false), (9, true), (10, false), (11, true), (12, true), (13, true), (14, true), (15, false), (16, true), (17, true)] [] [] (by kernel_rfl) ?_; refine' dqs0)
                  refine' wlk5 IH.out UK.out (errT 1) (errT 5) (errT 6)
                  (refine awp_draw (fun KS EG hK hP => ?_); refine draw_rule rfl [(0, true), (1, false), (2, true), (3, true), (4, true), (5, false), (6, false), (7, false)] [] [8] (by kernel_rfl) ?_; repeat (first | ((first | refine dq_pu rfl ?_ | refine dq_rd rfl ?_ | (refine dq_gTp rfl rfl ?_ ?_; (focus (simp [*]; done))) | (refine dq_gTr rfl rfl ?_ ?_; (focus (simp [*]; done)))); constructor; refine And.intro (fun _ _ hO => ?_) ?_; (focus (simp [*]; (try simp (discharger := omega) only [wrap_i64, dec_t, dec_f]); (first | ((try (first | refine .inl ⟨?_, by omega, by omega⟩ | refine ⟨by omega, by omega, ?_⟩ | refine ⟨by omega, ?_⟩ | refine .inl ?_)); exact hO.out _ _ (.refl _) (St.le_refl _)) | ((first | refine Tri.call (inT m[k].1 (ErT.err 6) _ (by have : (ErT.err 6).path.size = 0 := rfl; omega)) ?_); rintro _ _ ⟨rfl, h9⟩; replace h9 := h9.symm; subst h9; exact hO.out _ _ (.refl _) (St.le_refl _)) | exact .inr ⟨(inT m[k].1 (ErT.err 6) _ (by have : (ErT.err 6).path.size = 0 := rfl; omega)), hO.out _ _ (.refl _) (St.le_refl _)⟩ | exact .inl ⟨(inT m[k].1 (ErT.err 6) _ (by have : (ErT.err 6).path.size = 0 := rfl; omega)), hO.out _ _ (.refl _) (St.le_refl _)⟩ | exact ⟨_, (inT m[k].1 (ErT.err 6) _ (by have : (ErT.err 6).path.size = 0 := rfl; omega)), hO.out _ _ (.refl _) (St.le_refl _)⟩))); (first | refine aput_some (by decide) ?_ | refine aput_none ?_)) | ((first | (refine dq_gF rfl rfl ?_ ?_; (focus (simp [*]; done))) | (refine dq_gU rfl rfl ?_ ?_; (focus (simp [*]; done)))); (first | refine aput_some (by decide) ?_ | refine aput_none ?_)) | refine dq_nil ?_ | refine dtail_none ?_ | refine dtail_some ?_ | refine dals_alloc rfl (by decide) (by simp; rfl) ?_ | refine dals_box rfl (by decide) (by simp [*]; rfl) ?_  | (refine dals_arrO rfl (by decide) (by first | rfl | simp) (by simp) (by intro σ'; simp [*]; exact inT m[k].1 (ErT.err 6) _ (by have : (ErT.err 6).path.size = 0 := rfl; omega) σ') (by first | assumption | simp) ?_) | refine dals_nil ?_ | refine dfin_nil ?_ | (refine dfin_cons rfl ?_; simp only [fresh_set, ne_eq, and_assoc]; intro b8 c8 hf8 hc8; (try subst hc8); (repeat (obtain ⟨_, hf8⟩ := hf8))) | (refine aops_idx rfl (fun K9 hO => ?_); simp [*]; (try simp (discharger := omega) only [wrap_i64, dec_t, dec_f]); (first | ((try (first | refine .inl ⟨by omega, by omega, ?_⟩ | refine ⟨by omega, by omega, ?_⟩ | refine ⟨by omega, ?_⟩ | refine .inl ?_)); (first | (intro b; intros; refine hO.out _ _ ?_) | refine hO.out _ _ ?_)) | ((first | refine Tri.call (inT m[k].1 (ErT.err 6) _ (by have : (ErT.err 6).path.size = 0 := rfl; omega)) ?_); (first | rintro _ _ ⟨rfl, h9⟩; replace h9 := h9.symm; subst h9 | rintro _ _ ⟨_, rfl, rfl⟩ | rintro _ _ ⟨_, _, rfl, rfl⟩ | rintro _ _ ⟨_, _, _, rfl, rfl⟩); refine hO.out _ _ ?_)); clear hO; (try clear K9); (first | refine aput_some (by decide) ?_ | refine aput_none ?_)) | refine aops_end ?_ | ((repeat ((fail_if_success (refine hK.out _ _ ?_)); clear hK; (try clear hP EG); (try clear KS))); refine hK.out _ _ ?_; clear hK; (try clear hP EG); try clear KS)))
                  refine' wlk0
                  ((try simp [*]); (try simp (discharger := omega) only [wrap_i64, dec_t, dec_f]))
                  exact .mk _ σ (.refl _) leT ⟨(by rw [HRES.out, HE.out, hst.out, HM.out, if_neg (by decide)]; try rfl), rfl⟩
              · by_cases hlss : Op.bytesLess m[k + 1].1.toList m[k].1.toList = true
                · have HM := Lib.hid (show memE (prevK m (k + 1)) m[k + 1].1 e = ErT.err 1 by rw [prevK_succ hkk]; unfold memE; rw [if_neg (by rw [hu]; decide)]; simp only [if_neg hq]; exact if_pos hlss)
                  refine' wlk5 IH.out UK.out (errT 1) (errT 5) (errT 6)
                  (refine awp_draw (fun KS EG hK hP => ?_); refine draw_rule rfl [(0, true), (1, true), (2, true), (3, true), (4, false), (5, true), (6, true), (7, true), (8, false), (9, true), (10, false), (11, true), (12, true), (13, true), (14, true), (15, false), (16, true), (17, true)] [] [] (by kernel_rfl) ?_; refine' dqs0)
                  refine' wlk5 IH.out UK.out (errT 1) (errT 5) (errT 6)
                  (refine awp_draw (fun KS EG hK hP => ?_); refine draw_rule rfl [(0, true), (1, true), (2, true), (3, true), (4, false), (5, true), (6, true), (7, true), (8, false), (9, true), (10, false), (11, true), (12, true), (13, true), (14, true), (15, false), (16, true), (17, true)] [] [] (by kernel_rfl) ?_; refine' dqs0)
                  refine' wlk5 IH.out UK.out (errT 1) (errT 5) (errT 6)
                  (refine awp_draw (fun KS EG hK hP => ?_); refine draw_rule rfl [(0, true), (1, false), (2, true), (3, true), (4, true), (5, false), (6, false), (7, false)] [] [8] (by kernel_rfl) ?_; repeat (first | ((first | refine dq_pu rfl ?_ | refine dq_rd rfl ?_ | (refine dq_gTp rfl rfl ?_ ?_; (focus (simp [*]; done))) | (refine dq_gTr rfl rfl ?_ ?_; (focus (simp [*]; done)))); constructor; refine And.intro (fun _ _ hO => ?_) ?_; (focus (simp [*]; (try simp (discharger := omega) only [wrap_i64, dec_t, dec_f]); (first | ((try (first | refine .inl ⟨?_, by omega, by omega⟩ | refine ⟨by omega, by omega, ?_⟩ | refine ⟨by omega, ?_⟩ | refine .inl ?_)); exact hO.out _ _ (.refl _) (St.le_refl _)) | ((first | refine Tri.call (inT m[k + 1].1 (ErT.err 1) _ (by have : (ErT.err 1).path.size = 0 := rfl; omega)) ?_); rintro _ _ ⟨rfl, h9⟩; replace h9 := h9.symm; subst h9; exact hO.out _ _ (.refl _) (St.le_refl _)) | exact .inr ⟨(inT m[k + 1].1 (ErT.err 1) _ (by have : (ErT.err 1).path.size = 0 := rfl; omega)), hO.out _ _ (.refl _) (St.le_refl _)⟩ | exact .inl ⟨(inT m[k + 1].1 (ErT.err 1) _ (by have : (ErT.err 1).path.size = 0 := rfl; omega)), hO.out _ _ (.refl _) (St.le_refl _)⟩ | exact ⟨_, (inT m[k + 1].1 (ErT.err 1) _ (by have : (ErT.err 1).path.size = 0 := rfl; omega)), hO.out _ _ (.refl _) (St.le_refl _)⟩))); (first | refine aput_some (by decide) ?_ | refine aput_none ?_)) | ((first | (refine dq_gF rfl rfl ?_ ?_; (focus (simp [*]; done))) | (refine dq_gU rfl rfl ?_ ?_; (focus (simp [*]; done)))); (first | refine aput_some (by decide) ?_ | refine aput_none ?_)) | refine dq_nil ?_ | refine dtail_none ?_ | refine dtail_some ?_ | refine dals_alloc rfl (by decide) (by simp; rfl) ?_ | refine dals_box rfl (by decide) (by simp [*]; rfl) ?_  | (refine dals_arrO rfl (by decide) (by first | rfl | simp) (by simp) (by intro σ'; simp [*]; exact inT m[k + 1].1 (ErT.err 1) _ (by have : (ErT.err 1).path.size = 0 := rfl; omega) σ') (by first | assumption | simp) ?_) | refine dals_nil ?_ | refine dfin_nil ?_ | (refine dfin_cons rfl ?_; simp only [fresh_set, ne_eq, and_assoc]; intro b8 c8 hf8 hc8; (try subst hc8); (repeat (obtain ⟨_, hf8⟩ := hf8))) | (refine aops_idx rfl (fun K9 hO => ?_); simp [*]; (try simp (discharger := omega) only [wrap_i64, dec_t, dec_f]); (first | ((try (first | refine .inl ⟨by omega, by omega, ?_⟩ | refine ⟨by omega, by omega, ?_⟩ | refine ⟨by omega, ?_⟩ | refine .inl ?_)); (first | (intro b; intros; refine hO.out _ _ ?_) | refine hO.out _ _ ?_)) | ((first | refine Tri.call (inT m[k + 1].1 (ErT.err 1) _ (by have : (ErT.err 1).path.size = 0 := rfl; omega)) ?_); (first | rintro _ _ ⟨rfl, h9⟩; replace h9 := h9.symm; subst h9 | rintro _ _ ⟨_, rfl, rfl⟩ | rintro _ _ ⟨_, _, rfl, rfl⟩ | rintro _ _ ⟨_, _, _, rfl, rfl⟩); refine hO.out _ _ ?_)); clear hO; (try clear K9); (first | refine aput_some (by decide) ?_ | refine aput_none ?_)) | refine aops_end ?_ | ((repeat ((fail_if_success (refine hK.out _ _ ?_)); clear hK; (try clear hP EG); (try clear KS))); refine hK.out _ _ ?_; clear hK; (try clear hP EG); try clear KS)))
                  refine' wlk0
                  ((try simp [*]); (try simp (discharger := omega) only [wrap_i64, dec_t, dec_f]))
                  exact .mk _ σ (.refl _) leT ⟨(by rw [HRES.out, HE.out, hst.out, HM.out, if_neg (by decide)]; try rfl), rfl⟩
                · replace hlss : Op.bytesLess m[k + 1].1.toList m[k].1.toList = false := by simpa using hlss
                  have HM := Lib.hid (show memE (prevK m (k + 1)) m[k + 1].1 e = e by rw [prevK_succ hkk]; unfold memE; rw [if_neg (by rw [hu]; decide)]; simp only [if_neg hq]; exact if_neg (by rw [kless, hlss]; decide))
                  by_cases hc : e.code = 0
                  · refine' wlk5 IH.out UK.out (errT 1) (errT 5) (errT 6)
                    (refine awp_draw (fun KS EG hK hP => ?_); refine draw_rule rfl [(0, true), (1, true), (2, true), (3, true), (4, false), (5, true), (6, true), (7, true), (8, false), (9, true), (10, false), (11, true), (12, true), (13, true), (14, true), (15, false), (16, true), (17, true)] [] [] (by kernel_rfl) ?_; refine' dqs0)
                    refine' wlk5 IH.out UK.out (errT 1) (errT 5) (errT 6)
                    (refine awp_draw (fun KS EG hK hP => ?_); refine draw_rule rfl [(0, true), (1, true), (2, true), (3, true), (4, false), (5, true), (6, true), (7, true), (8, false), (9, true), (10, false), (11, true), (12, true), (13, true), (14, true), (15, false), (16, true), (17, true)] [] [] (by kernel_rfl) ?_; refine' dqs0)
                    refine' wlk5 IH.out UK.out (errT 1) (errT 5) (errT 6)
                    refine hL.out _ _ (.less τ leT (.same ⟨mixT, ⟨k + 1 + 1, by omega, ?_, ?_, rfl⟩, ?_⟩))
                    · simp [*]
                    · rw [HE.out, hst.out, HM.out, if_pos hc, prevK_succ hlt]
                    · simp [*, D.int]; omega
                  · refine' wlk5 IH.out UK.out (errT 1) (errT 5) (errT 6)
                    (refine awp_draw (fun KS EG hK hP => ?_); refine draw_rule rfl [(0, true), (1, true), (2, true), (3, true), (4, false), (5, true), (6, true), (7, true), (8, false), (9, true), (10, false), (11, true), (12, true), (13, true), (14, true), (15, false), (16, true), (17, true)] [] [] (by kernel_rfl) ?_; refine' dqs0)
                    refine' wlk5 IH.out UK.out (errT 1) (errT 5) (errT 6)
                    (refine awp_draw (fun KS EG hK hP => ?_); refine draw_rule rfl [(0, true), (1, true), (2, true), (3, true), (4, false), (5, true), (6, true), (7, true), (8, false), (9, true), (10, false), (11, true), (12, true), (13, true), (14, true), (15, false), (16, true), (17, true)] [] [] (by kernel_rfl) ?_; refine' dqs0)
                    refine' wlk5 IH.out UK.out (errT 1) (errT 5) (errT 6)
                    (refine awp_draw (fun KS EG hK hP => ?_); refine draw_rule rfl [(0, true), (1, false), (2, true), (3, true), (4, true), (5, false), (6, false), (7, false)] [] [8] (by kernel_rfl) ?_; repeat (first | ((first | refine dq_pu rfl ?_ | refine dq_rd rfl ?_ | (refine dq_gTp rfl rfl ?_ ?_; (focus (simp [*]; done))) | (refine dq_gTr rfl rfl ?_ ?_; (focus (simp [*]; done)))); constructor; refine And.intro (fun _ _ hO => ?_) ?_; (focus (simp [*]; (try simp (discharger := omega) only [wrap_i64, dec_t, dec_f]); (first | ((try (first | refine .inl ⟨?_, by omega, by omega⟩ | refine ⟨by omega, by omega, ?_⟩ | refine ⟨by omega, ?_⟩ | refine .inl ?_)); exact hO.out _ _ (.refl _) (St.le_refl _)) | ((first | refine Tri.call (inT m[k + 1].1 e _ (by have := hp.out; omega)) ?_); rintro _ _ ⟨rfl, h9⟩; replace h9 := h9.symm; subst h9; exact hO.out _ _ (.refl _) (St.le_refl _)) | exact .inr ⟨(inT m[k + 1].1 e _ (by have := hp.out; omega)), hO.out _ _ (.refl _) (St.le_refl _)⟩ | exact .inl ⟨(inT m[k + 1].1 e _ (by have := hp.out; omega)), hO.out _ _ (.refl _) (St.le_refl _)⟩ | exact ⟨_, (inT m[k + 1].1 e _ (by have := hp.out; omega)), hO.out _ _ (.refl _) (St.le_refl _)⟩))); (first | refine aput_some (by decide) ?_ | refine aput_none ?_)) | ((first | (refine dq_gF rfl rfl ?_ ?_; (focus (simp [*]; done))) | (refine dq_gU rfl rfl ?_ ?_; (focus (simp [*]; done)))); (first | refine aput_some (by decide) ?_ | refine aput_none ?_)) | refine dq_nil ?_ | refine dtail_none ?_ | refine dtail_some ?_ | refine dals_alloc rfl (by decide) (by simp; rfl) ?_ | refine dals_box rfl (by decide) (by simp [*]; rfl) ?_  | (refine dals_arrO rfl (by decide) (by first | rfl | simp) (by simp) (by intro σ'; simp [*]; exact inT m[k + 1].1 e _ (by have := hp.out; omega) σ') (by first | assumption | simp) ?_) | refine dals_nil ?_ | refine dfin_nil ?_ | (refine dfin_cons rfl ?_; simp only [fresh_set, ne_eq, and_assoc]; intro b8 c8 hf8 hc8; (try subst hc8); (repeat (obtain ⟨_, hf8⟩ := hf8))) | (refine aops_idx rfl (fun K9 hO => ?_); simp [*]; (try simp (discharger := omega) only [wrap_i64, dec_t, dec_f]); (first | ((try (first | refine .inl ⟨by omega, by omega, ?_⟩ | refine ⟨by omega, by omega, ?_⟩ | refine ⟨by omega, ?_⟩ | refine .inl ?_)); (first | (intro b; intros; refine hO.out _ _ ?_) | refine hO.out _ _ ?_)) | ((first | refine Tri.call (inT m[k + 1].1 e _ (by have := hp.out; omega)) ?_); (first | rintro _ _ ⟨rfl, h9⟩; replace h9 := h9.symm; subst h9 | rintro _ _ ⟨_, rfl, rfl⟩ | rintro _ _ ⟨_, _, rfl, rfl⟩ | rintro _ _ ⟨_, _, _, rfl, rfl⟩); refine hO.out _ _ ?_)); clear hO; (try clear K9); (first | refine aput_some (by decide) ?_ | refine aput_none ?_)) | refine aops_end ?_ | ((repeat ((fail_if_success (refine hK.out _ _ ?_)); clear hK; (try clear hP EG); (try clear KS))); refine hK.out _ _ ?_; clear hK; (try clear hP EG); try clear KS)))
                    refine' wlk0
                    ((try simp [*]); (try simp (discharger := omega) only [wrap_i64, dec_t, dec_f]))
                    exact .mk _ σ (.refl _) leT ⟨(by rw [HRES.out, HE.out, hst.out, HM.out, if_neg hc]; try rfl), rfl⟩
            · replace hu : utf8B m[k + 1].1 = false := by simpa using hu
              by_cases hq : m[k + 1].1 = m[k].1
              · rw [hq] at UK hkey hu hst
                by_cases hlss : Op.bytesLess m[k].1.toList m[k].1.toList = true
                · have HM := Lib.hid (show memE (prevK m (k + 1)) m[k].1 e = ErT.err 5 by unfold memE; rw [if_pos hu])
                  refine' wlk5 IH.out UK.out (errT 1) (errT 5) (errT 6)
                  (refine awp_draw (fun KS EG hK hP => ?_); refine draw_rule rfl [(0, true), (1, true), (2, true), (3, true), (4, false), (5, true), (6, true), (7, true), (8, false), (9, true), (10, false), (11, true), (12, true), (13, true), (14, true), (15, false), (16, true), (17, true)] [] [] (by kernel_rfl) ?_; refine' dqs0)
                  refine' wlk5 IH.out UK.out (errT 1) (errT 5) (errT 6)
                  (refine awp_draw (fun KS EG hK hP => ?_); refine draw_rule rfl [(0, true), (1, true), (2, true), (3, true), (4, false), (5, true), (6, true), (7, true), (8, false), (9, true), (10, false), (11, true), (12, true), (13, true), (14, true), (15, false), (16, true), (17, true)] [] [] (by kernel_rfl) ?_; refine' dqs0)
                  refine' wlk5 IH.out UK.out (errT 1) (errT 5) (errT 6)
                  (refine awp_draw (fun KS EG hK hP => ?_); refine draw_rule rfl [(0, true), (1, false), (2, true), (3, true), (4, true), (5, false), (6, false), (7, false)] [] [8] (by kernel_rfl) ?_; repeat (first | ((first | refine dq_pu rfl ?_ | refine dq_rd rfl ?_ | (refine dq_gTp rfl rfl ?_ ?_; (focus (simp [*]; done))) | (refine dq_gTr rfl rfl ?_ ?_; (focus (simp [*]; done)))); constructor; refine And.intro (fun _ _ hO => ?_) ?_; (focus (simp [*]; (try simp (discharger := omega) only [wrap_i64, dec_t, dec_f]); (first | ((try (first | refine .inl ⟨?_, by omega, by omega⟩ | refine ⟨by omega, by omega, ?_⟩ | refine ⟨by omega, ?_⟩ | refine .inl ?_)); exact hO.out _ _ (.refl _) (St.le_refl _)) | ((first | refine Tri.call (inT m[k].1 (ErT.err 5) _ (by have : (ErT.err 5).path.size = 0 := rfl; omega)) ?_); rintro _ _ ⟨rfl, h9⟩; replace h9 := h9.symm; subst h9; exact hO.out _ _ (.refl _) (St.le_refl _)) | exact .inr ⟨(inT m[k].1 (ErT.err 5) _ (by have : (ErT.err 5).path.size = 0 := rfl; omega)), hO.out _ _ (.refl _) (St.le_refl _)⟩ | exact .inl ⟨(inT m[k].1 (ErT.err 5) _ (by have : (ErT.err 5).path.size = 0 := rfl; omega)), hO.out _ _ (.refl _) (St.le_refl _)⟩ | exact ⟨_, (inT m[k].1 (ErT.err 5) _ (by have : (ErT.err 5).path.size = 0 := rfl; omega)), hO.out _ _ (.refl _) (St.le_refl _)⟩))); (first | refine aput_some (by decide) ?_ | refine aput_none ?_)) | ((first | (refine dq_gF rfl rfl ?_ ?_; (focus (simp [*]; done))) | (refine dq_gU rfl rfl ?_ ?_; (focus (simp [*]; done)))); (first | refine aput_some (by decide) ?_ | refine aput_none ?_)) | refine dq_nil ?_ | refine dtail_none ?_ | refine dtail_some ?_ | refine dals_alloc rfl (by decide) (by simp; rfl) ?_ | refine dals_box rfl (by decide) (by simp [*]; rfl) ?_  | (refine dals_arrO rfl (by decide) (by first | rfl | simp) (by simp) (by intro σ'; simp [*]; exact inT m[k].1 (ErT.err 5) _ (by have : (ErT.err 5).path.size = 0 := rfl; omega) σ') (by first | assumption | simp) ?_) | refine dals_nil ?_ | refine dfin_nil ?_ | (refine dfin_cons rfl ?_; simp only [fresh_set, ne_eq, and_assoc]; intro b8 c8 hf8 hc8; (try subst hc8); (repeat (obtain ⟨_, hf8⟩ := hf8))) | (refine aops_idx rfl (fun K9 hO => ?_); simp [*]; (try simp (discharger := omega) only [wrap_i64, dec_t, dec_f]); (first | ((try (first | refine .inl ⟨by omega, by omega, ?_⟩ | refine ⟨by omega, by omega, ?_⟩ | refine ⟨by omega, ?_⟩ | refine .inl ?_)); (first | (intro b; intros; refine hO.out _ _ ?_) | refine hO.out _ _ ?_)) | ((first | refine Tri.call (inT m[k].1 (ErT.err 5) _ (by have : (ErT.err 5).path.size = 0 := rfl; omega)) ?_); (first | rintro _ _ ⟨rfl, h9⟩; replace h9 := h9.symm; subst h9 | rintro _ _ ⟨_, rfl, rfl⟩ | rintro _ _ ⟨_, _, rfl, rfl⟩ | rintro _ _ ⟨_, _, _, rfl, rfl⟩); refine hO.out _ _ ?_)); clear hO; (try clear K9); (first | refine aput_some (by decide) ?_ | refine aput_none ?_)) | refine aops_end ?_ | ((repeat ((fail_if_success (refine hK.out _ _ ?_)); clear hK; (try clear hP EG); (try clear KS))); refine hK.out _ _ ?_; clear hK; (try clear hP EG); try clear KS)))
                  refine' wlk0
                  ((try simp [*]); (try simp (discharger := omega) only [wrap_i64, dec_t, dec_f]))
                  exact .mk _ σ (.refl _) leT ⟨(by rw [HRES.out, HE.out, hst.out, HM.out, if_neg (by decide)]; try rfl), rfl⟩
                · replace hlss : Op.bytesLess m[k].1.toList m[k].1.toList = false := by simpa using hlss
                  have HM := Lib.hid (show memE (prevK m (k + 1)) m[k].1 e = ErT.err 5 by unfold memE; rw [if_pos hu])
                  refine' wlk5 IH.out UK.out (errT 1) (errT 5) (errT 6)
                  (refine awp_draw (fun KS EG hK hP => ?_); refine draw_rule rfl [(0, true), (1, true), (2, true), (3, true), (4, false), (5, true), (6, true), (7, true), (8, false), (9, true), (10, false), (11, true), (12, true), (13, true), (14, true), (15, false), (16, true), (17, true)] [] [] (by kernel_rfl) ?_; refine' dqs0)
                  refine' wlk5 IH.out UK.out (errT 1) (errT 5) (errT 6)
                  (refine awp_draw (fun KS EG hK hP => ?_); refine draw_rule rfl [(0, true), (1, true), (2, true), (3, true), (4, false), (5, true), (6, true), (7, true), (8, false), (9, true), (10, false), (11, true), (12, true), (13, true), (14, true), (15, false), (16, true), (17, true)] [] [] (by kernel_rfl) ?_; refine' dqs0)
                  refine' wlk5 IH.out UK.out (errT 1) (errT 5) (errT 6)
                  (refine awp_draw (fun KS EG hK hP => ?_); refine draw_rule rfl [(0, true), (1, false), (2, true), (3, true), (4, true), (5, false), (6, false), (7, false)] [] [8] (by kernel_rfl) ?_; repeat (first | ((first | refine dq_pu rfl ?_ | refine dq_rd rfl ?_ | (refine dq_gTp rfl rfl ?_ ?_; (focus (simp [*]; done))) | (refine dq_gTr rfl rfl ?_ ?_; (focus (simp [*]; done)))); constructor; refine And.intro (fun _ _ hO => ?_) ?_; (focus (simp [*]; (try simp (discharger := omega) only [wrap_i64, dec_t, dec_f]); (first | ((try (first | refine .inl ⟨?_, by omega, by omega⟩ | refine ⟨by omega, by omega, ?_⟩ | refine ⟨by omega, ?_⟩ | refine .inl ?_)); exact hO.out _ _ (.refl _) (St.le_refl _)) | ((first | refine Tri.call (inT m[k].1 (ErT.err 5) _ (by have : (ErT.err 5).path.size = 0 := rfl; omega)) ?_); rintro _ _ ⟨rfl, h9⟩; replace h9 := h9.symm; subst h9; exact hO.out _ _ (.refl _) (St.le_refl _)) | exact .inr ⟨(inT m[k].1 (ErT.err 5) _ (by have : (ErT.err 5).path.size = 0 := rfl; omega)), hO.out _ _ (.refl _) (St.le_refl _)⟩ | exact .inl ⟨(inT m[k].1 (ErT.err 5) _ (by have : (ErT.err 5).path.size = 0 := rfl; omega)), hO.out _ _ (.refl _) (St.le_refl _)⟩ | exact ⟨_, (inT m[k].1 (ErT.err 5) _ (by have : (ErT.err 5).path.size = 0 := rfl; omega)), hO.out _ _ (.refl _) (St.le_refl _)⟩))); (first | refine aput_some (by decide) ?_ | refine aput_none ?_)) | ((first | (refine dq_gF rfl rfl ?_ ?_; (focus (simp [*]; done))) | (refine dq_gU rfl rfl ?_ ?_; (focus (simp [*]; done)))); (first | refine aput_some (by decide) ?_ | refine aput_none ?_)) | refine dq_nil ?_ | refine dtail_none ?_ | refine dtail_some ?_ | refine dals_alloc rfl (by decide) (by simp; rfl) ?_ | refine dals_box rfl (by decide) (by simp [*]; rfl) ?_  | (refine dals_arrO rfl (by decide) (by first | rfl | simp) (by simp) (by intro σ'; simp [*]; exact inT m[k].1 (ErT.err 5) _ (by have : (ErT.err 5).path.size = 0 := rfl; omega) σ') (by first | assumption | simp) ?_) | refine dals_nil ?_ | refine dfin_nil ?_ | (refine dfin_cons rfl ?_; simp only [fresh_set, ne_eq, and_assoc]; intro b8 c8 hf8 hc8; (try subst hc8); (repeat (obtain ⟨_, hf8⟩ := hf8))) | (refine aops_idx rfl (fun K9 hO => ?_); simp [*]; (try simp (discharger := omega) only [wrap_i64, dec_t, dec_f]); (first | ((try (first | refine .inl ⟨by omega, by omega, ?_⟩ | refine ⟨by omega, by omega, ?_⟩ | refine ⟨by omega, ?_⟩ | refine .inl ?_)); (first | (intro b; intros; refine hO.out _ _ ?_) | refine hO.out _ _ ?_)) | ((first | refine Tri.call (inT m[k].1 (ErT.err 5) _ (by have : (ErT.err 5).path.size = 0 := rfl; omega)) ?_); (first | rintro _ _ ⟨rfl, h9⟩; replace h9 := h9.symm; subst h9 | rintro _ _ ⟨_, rfl, rfl⟩ | rintro _ _ ⟨_, _, rfl, rfl⟩ | rintro _ _ ⟨_, _, _, rfl, rfl⟩); refine hO.out _ _ ?_)); clear hO; (try clear K9); (first | refine aput_some (by decide) ?_ | refine aput_none ?_)) | refine aops_end ?_ | ((repeat ((fail_if_success (refine hK.out _ _ ?_)); clear hK; (try clear hP EG); (try clear KS))); refine hK.out _ _ ?_; clear hK; (try clear hP EG); try clear KS)))
                  refine' wlk0
                  ((try simp [*]); (try simp (discharger := omega) only [wrap_i64, dec_t, dec_f]))
                  exact .mk _ σ (.refl _) leT ⟨(by rw [HRES.out, HE.out, hst.out, HM.out, if_neg (by decide)]; try rfl), rfl⟩
              · by_cases hlss : Op.bytesLess m[k + 1].1.toList m[k].1.toList = true
                · have HM := Lib.hid (show memE (prevK m (k + 1)) m[k + 1].1 e = ErT.err 5 by unfold memE; rw [if_pos hu])
                  refine' wlk5 IH.out UK.out (errT 1) (errT 5) (errT 6)
                  (refine awp_draw (fun KS EG hK hP => ?_); refine draw_rule rfl [(0, true), (1, true), (2, true), (3, true), (4, false), (5, true), (6, true), (7, true), (8, false), (9, true), (10, false), (11, true), (12, true), (13, true), (14, true), (15, false), (16, true), (17, true)] [] [] (by kernel_rfl) ?_; refine' dqs0)
                  refine' wlk5 IH.out UK.out (errT 1) (errT 5) (errT 6)
                  (refine awp_draw (fun KS EG hK hP => ?_); refine draw_rule rfl [(0, true), (1, true), (2, true), (3, true), (4, false), (5, true), (6, true), (7, true), (8, false), (9, true), (10, false), (11, true), (12, true), (13, true), (14, true), (15, false), (16, true), (17, true)] [] [] (by kernel_rfl) ?_; refine' dqs0)
                  refine' wlk5 IH.out UK.out (errT 1) (errT 5) (errT 6)
                  (refine awp_draw (fun KS EG hK hP => ?_); refine draw_rule rfl [(0, true), (1, false), (2, true), (3, true), (4, true), (5, false), (6, false), (7, false)] [] [8] (by kernel_rfl) ?_; repeat (first | ((first | refine dq_pu rfl ?_ | refine dq_rd rfl ?_ | (refine dq_gTp rfl rfl ?_ ?_; (focus (simp [*]; done))) | (refine dq_gTr rfl rfl ?_ ?_; (focus (simp [*]; done)))); constructor; refine And.intro (fun _ _ hO => ?_) ?_; (focus (simp [*]; (try simp (discharger := omega) only [wrap_i64, dec_t, dec_f]); (first | ((try (first | refine .inl ⟨?_, by omega, by omega⟩ | refine ⟨by omega, by omega, ?_⟩ | refine ⟨by omega, ?_⟩ | refine .inl ?_)); exact hO.out _ _ (.refl _) (St.le_refl _)) | ((first | refine Tri.call (inT m[k + 1].1 (ErT.err 5) _ (by have : (ErT.err 5).path.size = 0 := rfl; omega)) ?_); rintro _ _ ⟨rfl, h9⟩; replace h9 := h9.symm; subst h9; exact hO.out _ _ (.refl _) (St.le_refl _)) | exact .inr ⟨(inT m[k + 1].1 (ErT.err 5) _ (by have : (ErT.err 5).path.size = 0 := rfl; omega)), hO.out _ _ (.refl _) (St.le_refl _)⟩ | exact .inl ⟨(inT m[k + 1].1 (ErT.err 5) _ (by have : (ErT.err 5).path.size = 0 := rfl; omega)), hO.out _ _ (.refl _) (St.le_refl _)⟩ | exact ⟨_, (inT m[k + 1].1 (ErT.err 5) _ (by have : (ErT.err 5).path.size = 0 := rfl; omega)), hO.out _ _ (.refl _) (St.le_refl _)⟩))); (first | refine aput_some (by decide) ?_ | refine aput_none ?_)) | ((first | (refine dq_gF rfl rfl ?_ ?_; (focus (simp [*]; done))) | (refine dq_gU rfl rfl ?_ ?_; (focus (simp [*]; done)))); (first | refine aput_some (by decide) ?_ | refine aput_none ?_)) | refine dq_nil ?_ | refine dtail_none ?_ | refine dtail_some ?_ | refine dals_alloc rfl (by decide) (by simp; rfl) ?_ | refine dals_box rfl (by decide) (by simp [*]; rfl) ?_  | (refine dals_arrO rfl (by decide) (by first | rfl | simp) (by simp) (by intro σ'; simp [*]; exact inT m[k + 1].1 (ErT.err 5) _ (by have : (ErT.err 5).path.size = 0 := rfl; omega) σ') (by first | assumption | simp) ?_) | refine dals_nil ?_ | refine dfin_nil ?_ | (refine dfin_cons rfl ?_; simp only [fresh_set, ne_eq, and_assoc]; intro b8 c8 hf8 hc8; (try subst hc8); (repeat (obtain ⟨_, hf8⟩ := hf8))) | (refine aops_idx rfl (fun K9 hO => ?_); simp [*]; (try simp (discharger := omega) only [wrap_i64, dec_t, dec_f]); (first | ((try (first | refine .inl ⟨by omega, by omega, ?_⟩ | refine ⟨by omega, by omega, ?_⟩ | refine ⟨by omega, ?_⟩ | refine .inl ?_)); (first | (intro b; intros; refine hO.out _ _ ?_) | refine hO.out _ _ ?_)) | ((first | refine Tri.call (inT m[k + 1].1 (ErT.err 5) _ (by have : (ErT.err 5).path.size = 0 := rfl; omega)) ?_); (first | rintro _ _ ⟨rfl, h9⟩; replace h9 := h9.symm; subst h9 | rintro _ _ ⟨_, rfl, rfl⟩ | rintro _ _ ⟨_, _, rfl, rfl⟩ | rintro _ _ ⟨_, _, _, rfl, rfl⟩); refine hO.out _ _ ?_)); clear hO; (try clear K9); (first | refine aput_some (by decide) ?_ | refine aput_none ?_)) | refine aops_end ?_ | ((repeat ((fail_if_success (refine hK.out _ _ ?_)); clear hK; (try clear hP EG); (try clear KS))); refine hK.out _ _ ?_; clear hK; (try clear hP EG); try clear KS)))
                  refine' wlk0
                  ((try simp [*]); (try simp (discharger := omega) only [wrap_i64, dec_t, dec_f]))
                  exact .mk _ σ (.refl _) leT ⟨(by rw [HRES.out, HE.out, hst.out, HM.out, if_neg (by decide)]; try rfl), rfl⟩
                · replace hlss : Op.bytesLess m[k + 1].1.toList m[k].1.toList = false := by simpa using hlss
                  have HM := Lib.hid (show memE (prevK m (k + 1)) m[k + 1].1 e = ErT.err 5 by unfold memE; rw [if_pos hu])
                  refine' wlk5 IH.out UK.out (errT 1) (errT 5) (errT 6)
                  (refine awp_draw (fun KS EG hK hP => ?_); refine draw_rule rfl [(0, true), (1, true), (2, true), (3, true), (4, false), (5, true), (6, true), (7, true), (8, false), (9, true), (10, false), (11, true), (12, true), (13, true), (14, true), (15, false), (16, true), (17, true)] [] [] (by kernel_rfl) ?_; refine' dqs0)
                  refine' wlk5 IH.out UK.out (errT 1) (errT 5) (errT 6)
                  (refine awp_draw (fun KS EG hK hP => ?_); refine draw_rule rfl [(0, true), (1, true), (2, true), (3, true), (4, false), (5, true), (6, true), (7, true), (8, false), (9, true), (10, false), (11, true), (12, true), (13, true), (14, true), (15, false), (16, true), (17, true)] [] [] (by kernel_rfl) ?_; refine' dqs0)
                  refine' wlk5 IH.out UK.out (errT 1) (errT 5) (errT 6)
                  (refine awp_draw (fun KS EG hK hP => ?_); refine draw_rule rfl [(0, true), (1, false), (2, true), (3, true), (4, true), (5, false), (6, false), (7, false)] [] [8] (by kernel_rfl) ?_; repeat (first | ((first | refine dq_pu rfl ?_ | refine dq_rd rfl ?_ | (refine dq_gTp rfl rfl ?_ ?_; (focus (simp [*]; done))) | (refine dq_gTr rfl rfl ?_ ?_; (focus (simp [*]; done)))); constructor; refine And.intro (fun _ _ hO => ?_) ?_; (focus (simp [*]; (try simp (discharger := omega) only [wrap_i64, dec_t, dec_f]); (first | ((try (first | refine .inl ⟨?_, by omega, by omega⟩ | refine ⟨by omega, by omega, ?_⟩ | refine ⟨by omega, ?_⟩ | refine .inl ?_)); exact hO.out _ _ (.refl _) (St.le_refl _)) | ((first | refine Tri.call (inT m[k + 1].1 (ErT.err 5) _ (by have : (ErT.err 5).path.size = 0 := rfl; omega)) ?_); rintro _ _ ⟨rfl, h9⟩; replace h9 := h9.symm; subst h9; exact hO.out _ _ (.refl _) (St.le_refl _)) | exact .inr ⟨(inT m[k + 1].1 (ErT.err 5) _ (by have : (ErT.err 5).path.size = 0 := rfl; omega)), hO.out _ _ (.refl _) (St.le_refl _)⟩ | exact .inl ⟨(inT m[k + 1].1 (ErT.err 5) _ (by have : (ErT.err 5).path.size = 0 := rfl; omega)), hO.out _ _ (.refl _) (St.le_refl _)⟩ | exact ⟨_, (inT m[k + 1].1 (ErT.err 5) _ (by have : (ErT.err 5).path.size = 0 := rfl; omega)), hO.out _ _ (.refl _) (St.le_refl _)⟩))); (first | refine aput_some (by decide) ?_ | refine aput_none ?_)) | ((first | (refine dq_gF rfl rfl ?_ ?_; (focus (simp [*]; done))) | (refine dq_gU rfl rfl ?_ ?_; (focus (simp [*]; done)))); (first | refine aput_some (by decide) ?_ | refine aput_none ?_)) | refine dq_nil ?_ | refine dtail_none ?_ | refine dtail_some ?_ | refine dals_alloc rfl (by decide) (by simp; rfl) ?_ | refine dals_box rfl (by decide) (by simp [*]; rfl) ?_  | (refine dals_arrO rfl (by decide) (by first | rfl | simp) (by simp) (by intro σ'; simp [*]; exact inT m[k + 1].1 (ErT.err 5) _ (by have : (ErT.err 5).path.size = 0 := rfl; omega) σ') (by first | assumption | simp) ?_) | refine dals_nil ?_ | refine dfin_nil ?_ | (refine dfin_cons rfl ?_; simp only [fresh_set, ne_eq, and_assoc]; intro b8 c8 hf8 hc8; (try subst hc8); (repeat (obtain ⟨_, hf8⟩ := hf8))) | (refine aops_idx rfl (fun K9 hO => ?_); simp [*]; (try simp (discharger := omega) only [wrap_i64, dec_t, dec_f]); (first | ((try (first | refine .inl ⟨by omega, by omega, ?_⟩ | refine ⟨by omega, by omega, ?_⟩ | refine ⟨by omega, ?_⟩ | refine .inl ?_)); (first | (intro b; intros; refine hO.out _ _ ?_) | refine hO.out _ _ ?_)) | ((first | refine Tri.call (inT m[k + 1].1 (ErT.err 5) _ (by have : (ErT.err 5).path.size = 0 := rfl; omega)) ?_); (first | rintro _ _ ⟨rfl, h9⟩; replace h9 := h9.symm; subst h9 | rintro _ _ ⟨_, rfl, rfl⟩ | rintro _ _ ⟨_, _, rfl, rfl⟩ | rintro _ _ ⟨_, _, _, rfl, rfl⟩); refine hO.out _ _ ?_)); clear hO; (try clear K9); (first | refine aput_some (by decide) ?_ | refine aput_none ?_)) | refine aops_end ?_ | ((repeat ((fail_if_success (refine hK.out _ _ ?_)); clear hK; (try clear hP EG); (try clear KS))); refine hK.out _ _ ?_; clear hK; (try clear hP EG); try clear KS)))
                  refine' wlk0
                  ((try simp [*]); (try simp (discharger := omega) only [wrap_i64, dec_t, dec_f]))
                  exact .mk _ σ (.refl _) leT ⟨(by rw [HRES.out, HE.out, hst.out, HM.out, if_neg (by decide)]; try rfl), rfl⟩
        · have hke : k = m.length := by omega
          subst hke
          refine' wlk1 noneT
          ((try simp [*]); (try simp (discharger := omega) only [wrap_i64, dec_t, dec_f]))
          exact .mk _ σ (.refl _) leT ⟨(by rw [HRES.out, HE.out, List.drop_length, V.chkM]; try rfl), rfl⟩
    refine' wlk1 (errT 9)
    ((try simp [*]); (try simp (discharger := omega) only [wrap_i64, dec_t, dec_f]))
    exact .mk _ σ (.refl _) leT ⟨(by rw [HRES.out, if_neg H01.out, if_neg h2, if_neg h3, if_neg h4, if_neg h5]; try rfl), rfl⟩
end Go.Proofs.YtmjendeigjdihaaDoor
/-
  What is wrong with a value (chapter 1): the program's, and the document's.
-/
namespace Go.Proofs.YtmjendeigjdihaaDoor
open Go.RowKit
set_option maxRecDepth 100000
set_option linter.unusedVariables false
set_option linter.unusedSimpArgs false
attribute [local irreducible] awp aops aop aput aseq ablock TriX Tri Ret Fresh dq adraw dtail dals dfin Wk
attribute [local simp] ErT.d

theorem valCheckT (v : V) (deep : Nat) (hd : deep ≤ 20) (σ : St) (hv : v.ok) : Tri Tryd.prog 39 [.agg v.d, .i deep] σ fun d τ => d = erD (v.chkP deep) ∧ τ = σ := by
  obtain ⟨N, hN⟩ : ∃ N, N = v.w := ⟨_, rfl⟩
  induction N using Nat.strongRecOn generalizing v deep σ with
  | _ N ih =>
    obtain ⟨kd, y, i, t, l, m⟩ := v
    subst hN
    rw [V.w] at ih
    rw [V.ok] at hv
    obtain ⟨ht, hl, hm, hls, hms⟩ := hv
    refine valCheckOf kd y i t l m deep hd σ ht (Lib.hid fun hlt σ => ?_)
    exact partsT kd y i t l m (deep + 1) (by omega) σ hl hm (Lib.hid hms)
      (Lib.hid fun x hx σ => ih x.w (by have := V.ws_mem hx; omega) x (deep + 1) (by omega) σ (V.oks_mem hls hx) rfl)
      (Lib.hid fun x hx σ => ih x.2.w (by have := V.wm_mem hx; omega) x.2 (deep + 1) (by omega) σ (V.okm_mem hms hx).2 rfl)
theorem checkPT (v : V) (σ : St) (hv : v.ok) : Tri Tryd.prog 13 [.agg v.d] σ fun d τ => d = erD (v.chkP 0) ∧ τ = σ := by
  have HC := Lib.hid (fun σ => valCheckT v 0 (by omega) σ hv)
  refine tri_fn Tryd.func13 rfl Tryd.ntmps13 Tryd.results13 (Nat.le_of_ble_eq_true rfl) ?_
  refine' wlk1 HC.out
  ((try simp [*]); (try simp (discharger := omega) only [wrap_i64, dec_t, dec_f]))
  exact .mk _ σ (.refl _) leT ⟨rfl, rfl⟩
theorem checkRT (v : V) (σ : St) (hv : v.ok) : Tri Tryd.prog 15 [.agg v.d] σ fun d τ => d = .agg (v.chk 0).d ∧ τ = σ := by
  have HC := Lib.hid (fun σ => refCheckT v 0 (by omega) σ hv 0 rfl)
  refine tri_fn Tryd.func15 rfl Tryd.ntmps15 Tryd.results15 (Nat.le_of_ble_eq_true rfl) ?_
  refine' wlk1 HC.out
  ((try simp [*]); (try simp (discharger := omega) only [wrap_i64, dec_t, dec_f]))
  exact .mk _ σ (.refl _) leT ⟨rfl, rfl⟩
end Go.Proofs.YtmjendeigjdihaaDoor
/-
  errors.Is at two codes: it tells whether they are one.
-/
namespace Go.Proofs.YtmjendeigjdihaaDoor
open Go.RowKit Go.Extern.Stop Go.Stop Go.Extern
set_option linter.unusedVariables false
section
variable {P : Program} (w : World)
theorem run_equalIn_iface_int (d : Nat) {ti tn : TypeId} {ms : Array (String × TypeId)} {i : TypeInfo} {k : IntKind} (a b : Int)
    (hi : P.underlying ti = some (.interface ms)) (hn : P.underlying tn = some (.int k)) (hinfo : P.info? tn = some i) (hcomp : i.comparable = true) :
    (Op.equalIn (d + 2) ti (.iface tn (.int k a)) (.iface tn (.int k b))).run P w = .ok (a == b) w := by
  simp [Op.equalIn, run_underlying hi, run_underlying hn, typeInfo, hinfo, hcomp]
/-- 'x == y', both interface values of one integer type: as the numbers are. -/
theorem run_eql_iface_int {ti tn : TypeId} {ms : Array (String × TypeId)} {i : TypeInfo} {k : IntKind} (a b : Int)
    (hi : P.underlying ti = some (.interface ms)) (hn : P.underlying tn = some (.int k)) (hinfo : P.info? tn = some i) (hcomp : i.comparable = true) :
    (binOp .eql ti (.iface tn (.int k a)) (.iface tn (.int k b))).run P w = .ok (.bool (a == b)) w := by
  simp only [binOp]
  simp [Op.equal, Op.maxDepth, run_equalIn_iface_int w 9998 a b hi hn hinfo hcomp]
end

theorem info_code : (Tryd.prog.info? 56).map (·.comparable) = some true := by kernel_rfl
theorem code_eql (a b : Int) (w : World) : (binOp .eql 32 (.iface 56 (.int .i64 a)) (.iface 56 (.int .i64 b))).run Tryd.prog w = .ok (.bool (a == b)) w := by
  cases hi : Tryd.prog.info? 56 with
  | none => have h := info_code; rw [hi] at h; cases h
  | some i =>
    have h := info_code
    rw [hi] at h
    exact run_eql_iface_int w a b Tryd.underlying32 Tryd.underlying56 hi (by simpa using h)

theorem noIs_code (v : Value) (w : World) : (Instr.typeAssert (.iface 56 v) 32 119 true).run Tryd.prog w = .ok (.tuple #[.nilIface, .bool false]) w := run_typeAssert_lacksB Tryd.underlying119 (by kernel_rfl) (by kernel_rfl) v _ w
theorem noUnwrap_code (v : Value) (w : World) : (Instr.typeAssert (.iface 56 v) 32 122 true).run Tryd.prog w = .ok (.tuple #[.nilIface, .bool false]) w := run_typeAssert_lacksB Tryd.underlying122 (by kernel_rfl) (by kernel_rfl) v _ w
theorem noUnwraps_code (v : Value) (w : World) : (Instr.typeAssert (.iface 56 v) 32 124 true).run Tryd.prog w = .ok (.tuple #[.nilIface, .bool false]) w := run_typeAssert_lacksB Tryd.underlying124 (by kernel_rfl) (by kernel_rfl) v _ w

set_option maxRecDepth 100000 in
set_option maxHeartbeats 4000000 in
theorem is_codes (a b : Int) (w : World) :
    Calls Tryd.prog 48 #[.iface 56 (.int .i64 a), .iface 56 (.int .i64 b), .bool true] w fun e w' => e = .returned (.bool (a == b)) ∧ w = w' := by
  have he := code_eql a b
  have h1 := noIs_code (.int .i64 a)
  have h2 := noUnwrap_code (.int .i64 a)
  have h3 := noUnwraps_code (.int .i64 a)
  cases hab : (a == b)
  all_goals
    rw [hab] at he
    clear hab
    go_enter Tryd.func48, Tryd.ntmps48
    go_wp2_with fail
    refine wp_loop_rounds 1 ?_
    rw [rounds_succ]
    go_wp2_with fail
    go_ret
    exact ⟨rfl, rfl⟩

theorem typeOf_code (v : Value) (w : World) : (ReflectliteType.typeOf #[.iface 56 v]).run Tryd.prog w = .ok (.iface 117 (.agg #[.pointer (some ⟨7, 56, none⟩)])) w := by kernel_rfl

theorem method_comparable (h : Value) (w : World) : (Go.method 288 117 (.agg #[h]) "Comparable").run Tryd.prog w = .ok (115, .agg #[h]) w := by kernel_rfl
theorem comparable_code (w : World) : ((ReflectliteType.method fun t => do Rtype.noPackHeld "Comparable" t; (fun a : TypeInfo => Value.bool a.comparable) <$> typeInfo t) #[.agg #[.pointer (some ⟨7, 56, none⟩)]]).run Tryd.prog w = .ok (.bool true) w := by kernel_rfl

set_option maxRecDepth 100000 in
set_option maxHeartbeats 4000000 in
theorem errors_Is_codes (a b : Int) (w : World) :
    Calls Tryd.prog 22 #[.iface 56 (.int .i64 a), .iface 56 (.int .i64 b)] w fun e w' => e = .returned (.bool (a == b)) ∧ w = w' := by
  have hc := fun W => is_codes a b W
  have hT := @run_callFunc_extern Tryd.prog 47 _ ReflectliteType.typeOf Tryd.func47 (by kernel_rfl) (by kernel_rfl) (by kernel_rfl) (by kernel_rfl)
  have tO := typeOf_code
  have mC := method_comparable
  have hF := @run_callFunc_extern Tryd.prog 115 _ (ReflectliteType.method fun t => do Rtype.noPackHeld "Comparable" t; pure (.bool (← typeInfo t).comparable)) Tryd.func115 (by kernel_rfl) (by kernel_rfl) (by kernel_rfl) (by kernel_rfl)
  have cC := comparable_code
  go_enter Tryd.func22, Tryd.ntmps22
  go_wp2_with (go_at_call 48; refine (hc _).mono ?_; rintro e w' ⟨rfl, rfl⟩)
  go_ret
  exact ⟨rfl, rfl⟩

end Go.Proofs.YtmjendeigjdihaaDoor
/-
  errors.As at a code: into a *api.Code it is laid, into a **api.Fault it isn't.
-/
namespace Go.Proofs.YtmjendeigjdihaaDoor
open Go.RowKit Go.Extern.Stop Go.Stop Go.Extern
set_option linter.unusedVariables false
set_option linter.unusedSimpArgs false

theorem rlm (z : Sem Value) (f : TypeId → Addr → Nat → Nat → Sem Value) (v : Value) :
    ReflectliteValue.method z f #[v] = (do match ← ReflectliteValue.parts v with | none => z | some (t, a, fl) => f t a fl (fl % 32)) := rfl
theorem rls (v x : Value) : ReflectliteValue.set #[v, x] = (do
    let (some (dst, a, fl), some (src, b, _)) := (← ReflectliteValue.parts v, ← ReflectliteValue.parts x)
      | unsupported (.noEntry "extern/(internal/reflectlite.Value).Set.zeroValue")
    if fl / ReflectliteValue.flagAddr % 2 == 0 then unsupported (.noEntry "extern/(internal/reflectlite.Value).Set.unaddressable")
    let val ← loadVar src b
    if ← Rtype.directlyAssignable dst src then storeVar dst a val
    else if ← Rtype.implements dst src then
      if (← Rtype.kind src) == 20 then
        match val with
        | .nilIface => unsupported (.noEntry "extern/reflectlite: a nil value of one interface type handed on as a value of another")
        | _ => storeVar dst a val
      else storeVar dst a (.iface src val)
    else panicString ("reflectlite.Set: value of type " ++ (← Rtype.spelt src) ++ " is not assignable to type " ++ (← Rtype.spelt dst))
    pure (.tuple #[])) := rfl
theorem method_kind (h : Value) (w : World) : (Go.method 288 117 (.agg #[h]) "Kind").run Tryd.prog w = .ok (104, h) w := by kernel_rfl
theorem method_elem (h : Value) (w : World) : (Go.method 288 117 (.agg #[h]) "Elem").run Tryd.prog w = .ok (116, .agg #[h]) w := by kernel_rfl
theorem method_implements (h : Value) (w : World) : (Go.method 288 117 (.agg #[h]) "Implements").run Tryd.prog w = .ok (117, .agg #[h]) w := by kernel_rfl
theorem method_assignable (h : Value) (w : World) : (Go.method 288 117 (.agg #[h]) "AssignableTo").run Tryd.prog w = .ok (114, .agg #[h]) w := by kernel_rfl
theorem noAs_code (v : Value) (w : World) : (Instr.typeAssert (.iface 56 v) 32 129 true).run Tryd.prog w = .ok (.tuple #[.nilIface, .bool false]) w := run_typeAssert_lacksB Tryd.underlying129 (by kernel_rfl) (by kernel_rfl) v _ w

/-- What the package keeps: the type of error. -/
def ErrT (w : World) : Prop := w.cell? ⟨0, 0, none⟩ = some (.iface 117 (.agg #[.pointer (some ⟨7, 32, none⟩)]))
theorem ErrT.lt {w : World} (h : ErrT w) : 0 < w.heap.size := World.block_lt_of_cell? w ⟨0, 0, none⟩ h
theorem ErrT.below {w w' : World} (h : ErrT w) (hb : Below w.heap.size w w') : ErrT w' := (hb.cell (p := ⟨0, 0, none⟩) h.lt).trans h

theorem as_nil (t : Value) (w : World) :
    Calls Tryd.prog 38 #[.nilIface, t] w fun e w' => e = .returned (.bool false) ∧ w = w' := by
  go_enter Tryd.func38, Tryd.ntmps38
  go_wp2_with fail
  go_ret
  exact ⟨rfl, rfl⟩

/-! ### The target's type code -/
theorem valueOf_code (t : Addr) (w : World) : (ReflectliteValue.unpack (.iface 78 (.pointer (some t)))).run Tryd.prog w
    = .ok (.agg #[.pointer (some ⟨7, 78, none⟩), .pointer (some ⟨w.heap.size, 0, none⟩), .int .u64 150]) (w.alloc (.cells #[.pointer (some t)] 78)) := by kernel_rfl
theorem type_code (a : Addr) (w : World) : (ReflectliteValue.methodAny (ReflectliteValue.valueError "reflectlite.Value.Type" 0) (fun t _ _ _ => ReflectliteType.toType t) #[.agg #[.pointer (some ⟨7, 78, none⟩), .pointer (some a), .int .u64 150]]).run Tryd.prog w
    = .ok (.iface 117 (.agg #[.pointer (some ⟨7, 78, none⟩)])) w := by kernel_rfl
theorem kind_code (w : World) : ((ReflectliteType.abiMethod fun t => (fun a : Nat => Value.int IntKind.u8 (a : Int)) <$> Rtype.kind t) #[.pointer (some ⟨7, 78, none⟩)]).run Tryd.prog w = .ok (.int .u8 22) w := by kernel_rfl
theorem kindE_code (w : World) : ((ReflectliteType.abiMethod fun t => (fun a : Nat => Value.int IntKind.u8 (a : Int)) <$> Rtype.kind t) #[.pointer (some ⟨7, 56, none⟩)]).run Tryd.prog w = .ok (.int .u8 2) w := by kernel_rfl
theorem parts_code (a : Addr) (w : World) : (ReflectliteValue.parts (.agg #[.pointer (some ⟨7, 78, none⟩), .pointer (some a), .int .u64 150])).run Tryd.prog w = .ok (some (78, a, 150)) w := by kernel_rfl
theorem isNil_code (a p : Addr) (W : World) (ha : W.cell? a = some (.pointer (some p))) :
    (ReflectliteValue.method (ReflectliteValue.valueError "reflectlite.Value.IsNil" 0) ReflectliteValue.isNil #[.agg #[.pointer (some ⟨7, 78, none⟩), .pointer (some a), .int .u64 150]]).run Tryd.prog W = .ok (.bool false) W := by
  rw [rlm]
  simp only [Sem.run_bind, parts_code, Result.andThen]
  simp [ReflectliteValue.isNil, loadVar, isAgg, underlying, Tryd.underlying78, ha, Result.andThen]
theorem elem_code (w : World) : (ReflectliteType.method ReflectliteType.elem #[.agg #[.pointer (some ⟨7, 78, none⟩)]]).run Tryd.prog w = .ok (.iface 117 (.agg #[.pointer (some ⟨7, 56, none⟩)])) w := by kernel_rfl
theorem implements_code (w : World) : (ReflectliteType.relation "Implements" ReflectliteType.implements_ #[.agg #[.pointer (some ⟨7, 56, none⟩)], .iface 117 (.agg #[.pointer (some ⟨7, 32, none⟩)])]).run Tryd.prog w = .ok (.bool true) w := by kernel_rfl
theorem elemOf_code (w : World) : (Rtype.elem? 78).run Tryd.prog w = .ok (some 56) w := by kernel_rfl
theorem mk_code (p : Addr) (w : World) : (ReflectliteValue.mk 56 p ReflectliteValue.flagAddr).run Tryd.prog w = .ok (.agg #[.pointer (some ⟨7, 56, none⟩), .pointer (some p), .int .u64 386]) w := by kernel_rfl
theorem elemV_code (a p : Addr) (W : World) (ha : W.cell? a = some (.pointer (some p))) :
    (ReflectliteValue.method (ReflectliteValue.valueError "reflectlite.Value.Elem" 0) ReflectliteValue.elem #[.agg #[.pointer (some ⟨7, 78, none⟩), .pointer (some a), .int .u64 150]]).run Tryd.prog W
      = .ok (.agg #[.pointer (some ⟨7, 56, none⟩), .pointer (some p), .int .u64 386]) W := by
  rw [rlm]
  simp only [Sem.run_bind, parts_code, Result.andThen]
  simp [ReflectliteValue.elem, loadVar, isAgg, underlying, Tryd.underlying78, ha, Result.andThen, elemOf_code, mk_code]

theorem typeOfE_code (v : Value) (w : World) : (ReflectliteType.typeOf #[.iface 56 v]).run Tryd.prog w = .ok (.iface 117 (.agg #[.pointer (some ⟨7, 56, none⟩)])) w := by kernel_rfl
theorem assign_code (w : World) : (ReflectliteType.relation "AssignableTo" ReflectliteType.assignableTo #[.agg #[.pointer (some ⟨7, 56, none⟩)], .iface 117 (.agg #[.pointer (some ⟨7, 56, none⟩)])]).run Tryd.prog w = .ok (.bool true) w := by kernel_rfl
theorem valueOfE_code (c : Int) (w : World) : (ReflectliteValue.unpack (.iface 56 (.int .i64 c))).run Tryd.prog w
    = .ok (.agg #[.pointer (some ⟨7, 56, none⟩), .pointer (some ⟨w.heap.size, 0, none⟩), .int .u64 130]) (w.alloc (.cells #[.int .i64 c] 56)) := by kernel_rfl
theorem partsA_code (a : Addr) (w : World) : (ReflectliteValue.parts (.agg #[.pointer (some ⟨7, 56, none⟩), .pointer (some a), .int .u64 386])).run Tryd.prog w = .ok (some (56, a, 386)) w := by kernel_rfl
theorem partsE_code (a : Addr) (w : World) : (ReflectliteValue.parts (.agg #[.pointer (some ⟨7, 56, none⟩), .pointer (some a), .int .u64 130])).run Tryd.prog w = .ok (some (56, a, 130)) w := by kernel_rfl
theorem direct_code (w : World) : (Rtype.directlyAssignable 56 56).run Tryd.prog w = .ok true w := by kernel_rfl
theorem set_code (ta b : Addr) (c : Int) (old : Value) (W : World) (hb : W.cell? b = some (.int .i64 c)) (ht : W.cell? ta = some old) (hf : W.frozen? ta = false) :
    (ReflectliteValue.set #[.agg #[.pointer (some ⟨7, 56, none⟩), .pointer (some ta), .int .u64 386], .agg #[.pointer (some ⟨7, 56, none⟩), .pointer (some b), .int .u64 130]]).run Tryd.prog W
      = .ok (.tuple #[]) (W.setCell ta (.int .i64 c)) := by
  rw [rls]
  simp only [Sem.run_bind, partsA_code, partsE_code, Result.andThen]
  simp [ReflectliteValue.flagAddr, loadVar, isAgg, underlying, Tryd.underlying56, hb, Result.andThen, direct_code, storeVar, Value.cells, storeCells, Addr.add]
  rw [run_store Tryd.prog W ta _ _ (by rfl)]
  simp [ht, hf]

set_option maxRecDepth 100000 in
set_option maxHeartbeats 4000000 in
theorem as_hit_code (c : Int) (t : Addr) (old : Value) (w : World) (hg : ErrT w) (ht0 : w.cell? t = some old) (hf0 : w.frozen? t = false) :
    Calls Tryd.prog 38 #[.iface 56 (.int .i64 c), .iface 78 (.pointer (some t))] w fun ev w' => ev = .returned (.bool true) ∧ w' = ((((w.alloc (.cells #[.pointer (some t)] 78)).alloc (.cells #[.pointer (some ⟨7, 78, none⟩), .pointer (some ⟨w.heap.size, 0, none⟩), .int .u64 150] 108)).alloc (.cells #[.pointer (some ⟨7, 78, none⟩), .pointer (some ⟨w.heap.size, 0, none⟩), .int .u64 150] 108)).alloc (.cells #[.int .i64 c] 56)).setCell t (.int .i64 c) := by
  have hVO := @run_callFunc_extern Tryd.prog 59 _ (fun args => ReflectliteValue.unpack (args.getD 0 (.tuple #[]))) Tryd.func59 (by kernel_rfl) (by kernel_rfl) (by kernel_rfl) (by kernel_rfl)
  have hVT := @run_callFunc_extern Tryd.prog 60 _ (ReflectliteValue.methodAny (ReflectliteValue.valueError "reflectlite.Value.Type" 0) (fun t _ _ _ => ReflectliteType.toType t)) Tryd.func60 (by kernel_rfl) (by kernel_rfl) (by kernel_rfl) (by kernel_rfl)
  have hVN := @run_callFunc_extern Tryd.prog 61 _ (ReflectliteValue.method (ReflectliteValue.valueError "reflectlite.Value.IsNil" 0) ReflectliteValue.isNil) Tryd.func61 (by kernel_rfl) (by kernel_rfl) (by kernel_rfl) (by kernel_rfl)
  have hK := @run_callFunc_extern Tryd.prog 104 _ (ReflectliteType.abiMethod fun t => do pure (.int .u8 (← Rtype.kind t))) Tryd.func104 (by kernel_rfl) (by kernel_rfl) (by kernel_rfl) (by kernel_rfl)
  have hE := @run_callFunc_extern Tryd.prog 116 _ (ReflectliteType.method ReflectliteType.elem) Tryd.func116 (by kernel_rfl) (by kernel_rfl) (by kernel_rfl) (by kernel_rfl)
  have hI := @run_callFunc_extern Tryd.prog 117 _ (ReflectliteType.relation "Implements" ReflectliteType.implements_) Tryd.func117 (by kernel_rfl) (by kernel_rfl) (by kernel_rfl) (by kernel_rfl)
  have hT := @run_callFunc_extern Tryd.prog 47 _ ReflectliteType.typeOf Tryd.func47 (by kernel_rfl) (by kernel_rfl) (by kernel_rfl) (by kernel_rfl)
  have hA := @run_callFunc_extern Tryd.prog 114 _ (ReflectliteType.relation "AssignableTo" ReflectliteType.assignableTo) Tryd.func114 (by kernel_rfl) (by kernel_rfl) (by kernel_rfl) (by kernel_rfl)
  have hVE := @run_callFunc_extern Tryd.prog 67 _ (ReflectliteValue.method (ReflectliteValue.valueError "reflectlite.Value.Elem" 0) ReflectliteValue.elem) Tryd.func67 (by kernel_rfl) (by kernel_rfl) (by kernel_rfl) (by kernel_rfl)
  have hVS := @run_callFunc_extern Tryd.prog 68 _ ReflectliteValue.set Tryd.func68 (by kernel_rfl) (by kernel_rfl) (by kernel_rfl) (by kernel_rfl)
  have mK := method_kind
  have mE := method_elem
  have mI := method_implements
  have mA := method_assignable
  have tO := typeOfE_code
  have aE := assign_code
  have vE := valueOfE_code
  have vP := valueOf_code
  have tP := type_code
  have kP := kind_code
  have kE := kindE_code
  have eP := elem_code
  have iE := implements_code
  have hlt := hg.lt
  have n8 := isNil_code ⟨w.heap.size, 0, none⟩ t ((w.alloc (.cells #[.pointer (some t)] 78)).alloc (.cells #[.pointer (some ⟨7, 78, none⟩), .pointer (some ⟨w.heap.size, 0, none⟩), .int .u64 150] 108)) (by simp)
  have hg2 : ((w.alloc (.cells #[.pointer (some t)] 78)).alloc (.cells #[.pointer (some ⟨7, 78, none⟩), .pointer (some ⟨w.heap.size, 0, none⟩), .int .u64 150] 108)).cell? ⟨0, 0, none⟩ = some (.iface 117 (.agg #[.pointer (some ⟨7, 32, none⟩)])) := by
    rw [World.cell?_alloc_lt _ _ ⟨0, 0, none⟩ (by simp), World.cell?_alloc_lt _ _ ⟨0, 0, none⟩ hlt]; exact hg
  have htl : t.block < w.heap.size := World.block_lt_of_cell? w t ht0
  have el := elemV_code ⟨w.heap.size, 0, none⟩ t (((w.alloc (.cells #[.pointer (some t)] 78)).alloc (.cells #[.pointer (some ⟨7, 78, none⟩), .pointer (some ⟨w.heap.size, 0, none⟩), .int .u64 150] 108)).alloc (.cells #[.pointer (some ⟨7, 78, none⟩), .pointer (some ⟨w.heap.size, 0, none⟩), .int .u64 150] 108)) (by rw [World.cell?_alloc_lt _ _ ⟨w.heap.size, 0, none⟩ (by simp; omega)]; simp)
  have st := set_code t ⟨w.heap.size + 1 + 1 + 1, 0, none⟩ c old ((((w.alloc (.cells #[.pointer (some t)] 78)).alloc (.cells #[.pointer (some ⟨7, 78, none⟩), .pointer (some ⟨w.heap.size, 0, none⟩), .int .u64 150] 108)).alloc (.cells #[.pointer (some ⟨7, 78, none⟩), .pointer (some ⟨w.heap.size, 0, none⟩), .int .u64 150] 108)).alloc (.cells #[.int .i64 c] 56))
    (by rw [World.cell?_alloc_at _ _ _ _ (by simp)]; rfl)
    (by rw [World.cell?_alloc_lt _ _ t (by simp; omega), World.cell?_alloc_lt _ _ t (by simp; omega), World.cell?_alloc_lt _ _ t (by simp; omega), World.cell?_alloc_lt _ _ t htl]; exact ht0)
    (by rw [World.frozen?_alloc_old _ _ t (by simp; omega), World.frozen?_alloc_old _ _ t (by simp; omega), World.frozen?_alloc_old _ _ t (by simp; omega), World.frozen?_alloc_old _ _ t (Nat.ne_of_lt htl)]; exact hf0)
  have HG := Lib.hid hg
  clear hg
  go_enter Tryd.func38, Tryd.ntmps38
  go_wp2
  refine wp_loop_rounds 1 ?_
  rw [rounds_succ]
  go_wp2
  go_ret
  exact ⟨rfl, rfl⟩

/-! ### The target's type fault -/
theorem valueOf_fault (t : Addr) (w : World) : (ReflectliteValue.unpack (.iface 80 (.pointer (some t)))).run Tryd.prog w
    = .ok (.agg #[.pointer (some ⟨7, 80, none⟩), .pointer (some ⟨w.heap.size, 0, none⟩), .int .u64 150]) (w.alloc (.cells #[.pointer (some t)] 80)) := by kernel_rfl
theorem type_fault (a : Addr) (w : World) : (ReflectliteValue.methodAny (ReflectliteValue.valueError "reflectlite.Value.Type" 0) (fun t _ _ _ => ReflectliteType.toType t) #[.agg #[.pointer (some ⟨7, 80, none⟩), .pointer (some a), .int .u64 150]]).run Tryd.prog w
    = .ok (.iface 117 (.agg #[.pointer (some ⟨7, 80, none⟩)])) w := by kernel_rfl
theorem kind_fault (w : World) : ((ReflectliteType.abiMethod fun t => (fun a : Nat => Value.int IntKind.u8 (a : Int)) <$> Rtype.kind t) #[.pointer (some ⟨7, 80, none⟩)]).run Tryd.prog w = .ok (.int .u8 22) w := by kernel_rfl
theorem kindE_fault (w : World) : ((ReflectliteType.abiMethod fun t => (fun a : Nat => Value.int IntKind.u8 (a : Int)) <$> Rtype.kind t) #[.pointer (some ⟨7, 79, none⟩)]).run Tryd.prog w = .ok (.int .u8 22) w := by kernel_rfl
theorem parts_fault (a : Addr) (w : World) : (ReflectliteValue.parts (.agg #[.pointer (some ⟨7, 80, none⟩), .pointer (some a), .int .u64 150])).run Tryd.prog w = .ok (some (80, a, 150)) w := by kernel_rfl
theorem isNil_fault (a p : Addr) (W : World) (ha : W.cell? a = some (.pointer (some p))) :
    (ReflectliteValue.method (ReflectliteValue.valueError "reflectlite.Value.IsNil" 0) ReflectliteValue.isNil #[.agg #[.pointer (some ⟨7, 80, none⟩), .pointer (some a), .int .u64 150]]).run Tryd.prog W = .ok (.bool false) W := by
  rw [rlm]
  simp only [Sem.run_bind, parts_fault, Result.andThen]
  simp [ReflectliteValue.isNil, loadVar, isAgg, underlying, Tryd.underlying80, ha, Result.andThen]
theorem elem_fault (w : World) : (ReflectliteType.method ReflectliteType.elem #[.agg #[.pointer (some ⟨7, 80, none⟩)]]).run Tryd.prog w = .ok (.iface 117 (.agg #[.pointer (some ⟨7, 79, none⟩)])) w := by kernel_rfl
theorem implements_fault (w : World) : (ReflectliteType.relation "Implements" ReflectliteType.implements_ #[.agg #[.pointer (some ⟨7, 79, none⟩)], .iface 117 (.agg #[.pointer (some ⟨7, 32, none⟩)])]).run Tryd.prog w = .ok (.bool true) w := by kernel_rfl
theorem elemOf_fault (w : World) : (Rtype.elem? 80).run Tryd.prog w = .ok (some 79) w := by kernel_rfl
theorem mk_fault (p : Addr) (w : World) : (ReflectliteValue.mk 79 p ReflectliteValue.flagAddr).run Tryd.prog w = .ok (.agg #[.pointer (some ⟨7, 79, none⟩), .pointer (some p), .int .u64 406]) w := by kernel_rfl
theorem elemV_fault (a p : Addr) (W : World) (ha : W.cell? a = some (.pointer (some p))) :
    (ReflectliteValue.method (ReflectliteValue.valueError "reflectlite.Value.Elem" 0) ReflectliteValue.elem #[.agg #[.pointer (some ⟨7, 80, none⟩), .pointer (some a), .int .u64 150]]).run Tryd.prog W
      = .ok (.agg #[.pointer (some ⟨7, 79, none⟩), .pointer (some p), .int .u64 406]) W := by
  rw [rlm]
  simp only [Sem.run_bind, parts_fault, Result.andThen]
  simp [ReflectliteValue.elem, loadVar, isAgg, underlying, Tryd.underlying80, ha, Result.andThen, elemOf_fault, mk_fault]

theorem noAssign_fault (w : World) : (ReflectliteType.relation "AssignableTo" ReflectliteType.assignableTo #[.agg #[.pointer (some ⟨7, 56, none⟩)], .iface 117 (.agg #[.pointer (some ⟨7, 79, none⟩)])]).run Tryd.prog w = .ok (.bool false) w := by kernel_rfl
set_option maxRecDepth 100000 in
set_option maxHeartbeats 4000000 in
theorem as_miss_fault (c : Int) (t : Addr) (old : Value) (w : World) (hg : ErrT w) (ht0 : w.cell? t = some old) :
    Calls Tryd.prog 38 #[.iface 56 (.int .i64 c), .iface 80 (.pointer (some t))] w fun ev w' => ev = .returned (.bool false) ∧ w' = (((w.alloc (.cells #[.pointer (some t)] 80)).alloc (.cells #[.pointer (some ⟨7, 80, none⟩), .pointer (some ⟨w.heap.size, 0, none⟩), .int .u64 150] 108)).alloc (.cells #[.pointer (some ⟨7, 80, none⟩), .pointer (some ⟨w.heap.size, 0, none⟩), .int .u64 150] 108)) := by
  have hVO := @run_callFunc_extern Tryd.prog 59 _ (fun args => ReflectliteValue.unpack (args.getD 0 (.tuple #[]))) Tryd.func59 (by kernel_rfl) (by kernel_rfl) (by kernel_rfl) (by kernel_rfl)
  have hVT := @run_callFunc_extern Tryd.prog 60 _ (ReflectliteValue.methodAny (ReflectliteValue.valueError "reflectlite.Value.Type" 0) (fun t _ _ _ => ReflectliteType.toType t)) Tryd.func60 (by kernel_rfl) (by kernel_rfl) (by kernel_rfl) (by kernel_rfl)
  have hVN := @run_callFunc_extern Tryd.prog 61 _ (ReflectliteValue.method (ReflectliteValue.valueError "reflectlite.Value.IsNil" 0) ReflectliteValue.isNil) Tryd.func61 (by kernel_rfl) (by kernel_rfl) (by kernel_rfl) (by kernel_rfl)
  have hK := @run_callFunc_extern Tryd.prog 104 _ (ReflectliteType.abiMethod fun t => do pure (.int .u8 (← Rtype.kind t))) Tryd.func104 (by kernel_rfl) (by kernel_rfl) (by kernel_rfl) (by kernel_rfl)
  have hE := @run_callFunc_extern Tryd.prog 116 _ (ReflectliteType.method ReflectliteType.elem) Tryd.func116 (by kernel_rfl) (by kernel_rfl) (by kernel_rfl) (by kernel_rfl)
  have hI := @run_callFunc_extern Tryd.prog 117 _ (ReflectliteType.relation "Implements" ReflectliteType.implements_) Tryd.func117 (by kernel_rfl) (by kernel_rfl) (by kernel_rfl) (by kernel_rfl)
  have hT := @run_callFunc_extern Tryd.prog 47 _ ReflectliteType.typeOf Tryd.func47 (by kernel_rfl) (by kernel_rfl) (by kernel_rfl) (by kernel_rfl)
  have hA := @run_callFunc_extern Tryd.prog 114 _ (ReflectliteType.relation "AssignableTo" ReflectliteType.assignableTo) Tryd.func114 (by kernel_rfl) (by kernel_rfl) (by kernel_rfl) (by kernel_rfl)
  have hVE := @run_callFunc_extern Tryd.prog 67 _ (ReflectliteValue.method (ReflectliteValue.valueError "reflectlite.Value.Elem" 0) ReflectliteValue.elem) Tryd.func67 (by kernel_rfl) (by kernel_rfl) (by kernel_rfl) (by kernel_rfl)
  have hVS := @run_callFunc_extern Tryd.prog 68 _ ReflectliteValue.set Tryd.func68 (by kernel_rfl) (by kernel_rfl) (by kernel_rfl) (by kernel_rfl)
  have mK := method_kind
  have mE := method_elem
  have mI := method_implements
  have mA := method_assignable
  have tO := typeOf_code
  have aE := noAssign_fault
  have vP := valueOf_fault
  have tP := type_fault
  have kP := kind_fault
  have kE := kindE_fault
  have eP := elem_fault
  have iE := implements_fault
  have h1 := noAs_code (.int .i64 c)
  have h2 := noUnwrap_code (.int .i64 c)
  have h3 := noUnwraps_code (.int .i64 c)
  have hlt := hg.lt
  have n8 := isNil_fault ⟨w.heap.size, 0, none⟩ t ((w.alloc (.cells #[.pointer (some t)] 80)).alloc (.cells #[.pointer (some ⟨7, 80, none⟩), .pointer (some ⟨w.heap.size, 0, none⟩), .int .u64 150] 108)) (by simp)
  have hg2 : ((w.alloc (.cells #[.pointer (some t)] 80)).alloc (.cells #[.pointer (some ⟨7, 80, none⟩), .pointer (some ⟨w.heap.size, 0, none⟩), .int .u64 150] 108)).cell? ⟨0, 0, none⟩ = some (.iface 117 (.agg #[.pointer (some ⟨7, 32, none⟩)])) := by
    rw [World.cell?_alloc_lt _ _ ⟨0, 0, none⟩ (by simp), World.cell?_alloc_lt _ _ ⟨0, 0, none⟩ hlt]; exact hg
  have HG := Lib.hid hg
  clear hg
  go_enter Tryd.func38, Tryd.ntmps38
  go_wp2
  refine wp_loop_rounds 1 ?_
  rw [rounds_succ]
  go_wp2
  go_ret
  exact ⟨rfl, rfl⟩

end Go.Proofs.YtmjendeigjdihaaDoor
/-
  errors.As at a *api.Fault, into a **api.Fault: it is laid.
-/
namespace Go.Proofs.YtmjendeigjdihaaDoor
open Go.RowKit Go.Extern.Stop Go.Stop Go.Extern
set_option linter.unusedVariables false
set_option linter.unusedSimpArgs false

theorem typeOfE_fault (v : Value) (w : World) : (ReflectliteType.typeOf #[.iface 79 v]).run Tryd.prog w = .ok (.iface 117 (.agg #[.pointer (some ⟨7, 79, none⟩)])) w := by kernel_rfl
theorem assign_fault (w : World) : (ReflectliteType.relation "AssignableTo" ReflectliteType.assignableTo #[.agg #[.pointer (some ⟨7, 79, none⟩)], .iface 117 (.agg #[.pointer (some ⟨7, 79, none⟩)])]).run Tryd.prog w = .ok (.bool true) w := by kernel_rfl
theorem valueOfE_fault (e : Addr) (w : World) : (ReflectliteValue.unpack (.iface 79 (.pointer (some e)))).run Tryd.prog w
    = .ok (.agg #[.pointer (some ⟨7, 79, none⟩), .pointer (some ⟨w.heap.size, 0, none⟩), .int .u64 150]) (w.alloc (.cells #[.pointer (some e)] 79)) := by kernel_rfl
theorem partsA_fault (a : Addr) (w : World) : (ReflectliteValue.parts (.agg #[.pointer (some ⟨7, 79, none⟩), .pointer (some a), .int .u64 406])).run Tryd.prog w = .ok (some (79, a, 406)) w := by kernel_rfl
theorem partsE_fault (a : Addr) (w : World) : (ReflectliteValue.parts (.agg #[.pointer (some ⟨7, 79, none⟩), .pointer (some a), .int .u64 150])).run Tryd.prog w = .ok (some (79, a, 150)) w := by kernel_rfl
theorem direct_fault (w : World) : (Rtype.directlyAssignable 79 79).run Tryd.prog w = .ok true w := by kernel_rfl
theorem set_fault (ta b : Addr) (e : Addr) (old : Value) (W : World) (hb : W.cell? b = some (.pointer (some e))) (ht : W.cell? ta = some old) (hf : W.frozen? ta = false) :
    (ReflectliteValue.set #[.agg #[.pointer (some ⟨7, 79, none⟩), .pointer (some ta), .int .u64 406], .agg #[.pointer (some ⟨7, 79, none⟩), .pointer (some b), .int .u64 150]]).run Tryd.prog W
      = .ok (.tuple #[]) (W.setCell ta (.pointer (some e))) := by
  rw [rls]
  simp only [Sem.run_bind, partsA_fault, partsE_fault, Result.andThen]
  simp [ReflectliteValue.flagAddr, loadVar, isAgg, underlying, Tryd.underlying79, hb, Result.andThen, direct_fault, storeVar, Value.cells, storeCells, Addr.add]
  rw [run_store Tryd.prog W ta _ _ (by rfl)]
  simp [ht, hf]

set_option maxRecDepth 100000 in
set_option maxHeartbeats 4000000 in
theorem as_hit_fault (e : Addr) (t : Addr) (old : Value) (w : World) (hg : ErrT w) (ht0 : w.cell? t = some old) (hf0 : w.frozen? t = false) :
    Calls Tryd.prog 38 #[.iface 79 (.pointer (some e)), .iface 80 (.pointer (some t))] w fun ev w' => ev = .returned (.bool true) ∧ w' = ((((w.alloc (.cells #[.pointer (some t)] 80)).alloc (.cells #[.pointer (some ⟨7, 80, none⟩), .pointer (some ⟨w.heap.size, 0, none⟩), .int .u64 150] 108)).alloc (.cells #[.pointer (some ⟨7, 80, none⟩), .pointer (some ⟨w.heap.size, 0, none⟩), .int .u64 150] 108)).alloc (.cells #[.pointer (some e)] 79)).setCell t (.pointer (some e)) := by
  have hVO := @run_callFunc_extern Tryd.prog 59 _ (fun args => ReflectliteValue.unpack (args.getD 0 (.tuple #[]))) Tryd.func59 (by kernel_rfl) (by kernel_rfl) (by kernel_rfl) (by kernel_rfl)
  have hVT := @run_callFunc_extern Tryd.prog 60 _ (ReflectliteValue.methodAny (ReflectliteValue.valueError "reflectlite.Value.Type" 0) (fun t _ _ _ => ReflectliteType.toType t)) Tryd.func60 (by kernel_rfl) (by kernel_rfl) (by kernel_rfl) (by kernel_rfl)
  have hVN := @run_callFunc_extern Tryd.prog 61 _ (ReflectliteValue.method (ReflectliteValue.valueError "reflectlite.Value.IsNil" 0) ReflectliteValue.isNil) Tryd.func61 (by kernel_rfl) (by kernel_rfl) (by kernel_rfl) (by kernel_rfl)
  have hK := @run_callFunc_extern Tryd.prog 104 _ (ReflectliteType.abiMethod fun t => do pure (.int .u8 (← Rtype.kind t))) Tryd.func104 (by kernel_rfl) (by kernel_rfl) (by kernel_rfl) (by kernel_rfl)
  have hE := @run_callFunc_extern Tryd.prog 116 _ (ReflectliteType.method ReflectliteType.elem) Tryd.func116 (by kernel_rfl) (by kernel_rfl) (by kernel_rfl) (by kernel_rfl)
  have hI := @run_callFunc_extern Tryd.prog 117 _ (ReflectliteType.relation "Implements" ReflectliteType.implements_) Tryd.func117 (by kernel_rfl) (by kernel_rfl) (by kernel_rfl) (by kernel_rfl)
  have hT := @run_callFunc_extern Tryd.prog 47 _ ReflectliteType.typeOf Tryd.func47 (by kernel_rfl) (by kernel_rfl) (by kernel_rfl) (by kernel_rfl)
  have hA := @run_callFunc_extern Tryd.prog 114 _ (ReflectliteType.relation "AssignableTo" ReflectliteType.assignableTo) Tryd.func114 (by kernel_rfl) (by kernel_rfl) (by kernel_rfl) (by kernel_rfl)
  have hVE := @run_callFunc_extern Tryd.prog 67 _ (ReflectliteValue.method (ReflectliteValue.valueError "reflectlite.Value.Elem" 0) ReflectliteValue.elem) Tryd.func67 (by kernel_rfl) (by kernel_rfl) (by kernel_rfl) (by kernel_rfl)
  have hVS := @run_callFunc_extern Tryd.prog 68 _ ReflectliteValue.set Tryd.func68 (by kernel_rfl) (by kernel_rfl) (by kernel_rfl) (by kernel_rfl)
  have mK := method_kind
  have mE := method_elem
  have mI := method_implements
  have mA := method_assignable
  have tO := typeOfE_fault
  have aE := assign_fault
  have vE := valueOfE_fault
  have vP := valueOf_fault
  have tP := type_fault
  have kP := kind_fault
  have kE := kindE_fault
  have eP := elem_fault
  have iE := implements_fault
  have hlt := hg.lt
  have n8 := isNil_fault ⟨w.heap.size, 0, none⟩ t ((w.alloc (.cells #[.pointer (some t)] 80)).alloc (.cells #[.pointer (some ⟨7, 80, none⟩), .pointer (some ⟨w.heap.size, 0, none⟩), .int .u64 150] 108)) (by simp)
  have hg2 : ((w.alloc (.cells #[.pointer (some t)] 80)).alloc (.cells #[.pointer (some ⟨7, 80, none⟩), .pointer (some ⟨w.heap.size, 0, none⟩), .int .u64 150] 108)).cell? ⟨0, 0, none⟩ = some (.iface 117 (.agg #[.pointer (some ⟨7, 32, none⟩)])) := by
    rw [World.cell?_alloc_lt _ _ ⟨0, 0, none⟩ (by simp), World.cell?_alloc_lt _ _ ⟨0, 0, none⟩ hlt]; exact hg
  have htl : t.block < w.heap.size := World.block_lt_of_cell? w t ht0
  have el := elemV_fault ⟨w.heap.size, 0, none⟩ t (((w.alloc (.cells #[.pointer (some t)] 80)).alloc (.cells #[.pointer (some ⟨7, 80, none⟩), .pointer (some ⟨w.heap.size, 0, none⟩), .int .u64 150] 108)).alloc (.cells #[.pointer (some ⟨7, 80, none⟩), .pointer (some ⟨w.heap.size, 0, none⟩), .int .u64 150] 108)) (by rw [World.cell?_alloc_lt _ _ ⟨w.heap.size, 0, none⟩ (by simp; omega)]; simp)
  have st := set_fault t ⟨w.heap.size + 1 + 1 + 1, 0, none⟩ e old ((((w.alloc (.cells #[.pointer (some t)] 80)).alloc (.cells #[.pointer (some ⟨7, 80, none⟩), .pointer (some ⟨w.heap.size, 0, none⟩), .int .u64 150] 108)).alloc (.cells #[.pointer (some ⟨7, 80, none⟩), .pointer (some ⟨w.heap.size, 0, none⟩), .int .u64 150] 108)).alloc (.cells #[.pointer (some e)] 79))
    (by rw [World.cell?_alloc_at _ _ _ _ (by simp)]; rfl)
    (by rw [World.cell?_alloc_lt _ _ t (by simp; omega), World.cell?_alloc_lt _ _ t (by simp; omega), World.cell?_alloc_lt _ _ t (by simp; omega), World.cell?_alloc_lt _ _ t htl]; exact ht0)
    (by rw [World.frozen?_alloc_old _ _ t (by simp; omega), World.frozen?_alloc_old _ _ t (by simp; omega), World.frozen?_alloc_old _ _ t (by simp; omega), World.frozen?_alloc_old _ _ t (Nat.ne_of_lt htl)]; exact hf0)
  have HG := Lib.hid hg
  clear hg
  go_enter Tryd.func38, Tryd.ntmps38
  go_wp2
  refine wp_loop_rounds 1 ?_
  rw [rounds_succ]
  go_wp2
  go_ret
  exact ⟨rfl, rfl⟩

end Go.Proofs.YtmjendeigjdihaaDoor
/-
  errors.Is at a fault: it tells whether what it is about is the code.
-/
namespace Go.Proofs.YtmjendeigjdihaaDoor
open Go.RowKit Go.Extern.Stop Go.Stop Go.Extern
set_option maxRecDepth 100000
set_option linter.unusedVariables false
set_option linter.unusedSimpArgs false

/-- A fault in memory. -/
def FaultAt (w : World) (e : Nat) (i : Int) (field : ByteArray) (why : Value) : Prop := w.heap[e]? = some (.cells #[.int .i64 i, .string field, why] 82 (0, 0))

theorem fault_eql (p : Option Addr) (b : Int) (w : World) : (binOp .eql 32 (.iface 79 (.pointer p)) (.iface 56 (.int .i64 b))).run Tryd.prog w = .ok (.bool false) w := by kernel_rfl
theorem noIs_fault (v : Value) (w : World) : (Instr.typeAssert (.iface 79 v) 32 119 true).run Tryd.prog w = .ok (.tuple #[.nilIface, .bool false]) w := run_typeAssert_lacksB Tryd.underlying119 (by kernel_rfl) (by kernel_rfl) v _ w
theorem hasUnwrap_fault (p : Option Addr) (w : World) : (Instr.typeAssert (.iface 79 (.pointer p)) 32 122 true).run Tryd.prog w = .ok (.tuple #[.iface 79 (.pointer p), .bool true]) w := by kernel_rfl
theorem method_unwrap (p : Value) (w : World) : (Go.method 288 79 p "Unwrap").run Tryd.prog w = .ok (109, p) w := by kernel_rfl

set_option maxHeartbeats 4000000 in
theorem unwrap_any (e : Nat) (i : Int) (field : ByteArray) (why : Value) (w : World) (h : FaultAt w e i field why) :
    Calls Tryd.prog 109 #[.pointer (some ⟨e, 0, none⟩)] w fun ev w' => ev = .returned why ∧ w = w' := by
  have c2 : w.cell? ⟨e, 2, none⟩ = some why := by rw [blk_cell h]; rfl
  clear h
  go_enter Tryd.func109, Tryd.ntmps109
  go_wp2
  go_ret
  exact ⟨rfl, rfl⟩

set_option maxHeartbeats 4000000 in
theorem is_fault (e : Nat) (i : Int) (field : ByteArray) (b : Int) (w : World) (h : FaultAt w e i field (.iface 56 (.int .i64 b))) :
    Calls Tryd.prog 48 #[.iface 79 (.pointer (some ⟨e, 0, none⟩)), .iface 56 (.int .i64 b), .bool true] w fun ev w' => ev = .returned (.bool true) ∧ w = w' := by
  have he := fault_eql (some ⟨e, 0, none⟩) b
  have hc : ∀ w : World, (binOp .eql 32 (.iface 56 (.int .i64 b)) (.iface 56 (.int .i64 b))).run Tryd.prog w = .ok (.bool true) w := fun w => by have := code_eql b b w; simpa using this
  have h1 := noIs_fault (.pointer (some ⟨e, 0, none⟩))
  have h2 := hasUnwrap_fault (some ⟨e, 0, none⟩)
  have mU := method_unwrap (.pointer (some ⟨e, 0, none⟩))
  have hu := unwrap_any e i field _ w h
  have HF := Lib.hid h
  clear h
  go_enter Tryd.func48, Tryd.ntmps48
  go_wp2_with fail
  refine wp_loop_rounds 2 ?_
  rw [rounds_succ]
  go_wp2_with fail
  refine hu.mono ?_
  rintro ev w' ⟨rfl, rfl⟩
  clear hu he h1 h2 mU
  go_wp2_with fail
  rw [rounds_succ]
  go_wp2_with fail
  go_ret
  exact ⟨rfl, rfl⟩

set_option maxHeartbeats 4000000 in
theorem errors_Is_fault (e : Nat) (i : Int) (field : ByteArray) (b : Int) (w : World) (h : FaultAt w e i field (.iface 56 (.int .i64 b))) :
    Calls Tryd.prog 22 #[.iface 79 (.pointer (some ⟨e, 0, none⟩)), .iface 56 (.int .i64 b)] w fun ev w' => ev = .returned (.bool true) ∧ w = w' := by
  have hc := is_fault e i field b w h
  have hT := @run_callFunc_extern Tryd.prog 47 _ ReflectliteType.typeOf Tryd.func47 (by kernel_rfl) (by kernel_rfl) (by kernel_rfl) (by kernel_rfl)
  have tO := typeOf_code
  have mC := method_comparable
  have hF := @run_callFunc_extern Tryd.prog 115 _ (ReflectliteType.method fun t => do Rtype.noPackHeld "Comparable" t; pure (.bool (← typeInfo t).comparable)) Tryd.func115 (by kernel_rfl) (by kernel_rfl) (by kernel_rfl) (by kernel_rfl)
  have cC := comparable_code
  clear h
  go_enter Tryd.func22, Tryd.ntmps22
  go_wp2_with (go_at_call 48; refine hc.mono ?_; rintro ev w' ⟨rfl, rfl⟩)
  go_ret
  exact ⟨rfl, rfl⟩

end Go.Proofs.YtmjendeigjdihaaDoor
