/-
  The card of the law ValueGets: it holds for every input.
-/
import Derived.Test.YtmjendeigjdihaaDoorVc8
import Derived.Test.YtmjendeigjdihaaDoorVc10
import Derived.Test.YtmjendeigjdihaaDoorVt1
import Derived.Test.YtmjendeigjdihaaDoorCards
import Derived.Test.YtmjendeigjdihaaDoorTie
/-
  Values (chapter 1): depth, size; the program's.
-/
namespace Go.Proofs.YtmjendeigjdihaaDoor
open Go.RowKit
set_option maxRecDepth 100000
set_option linter.unusedVariables false
set_option linter.unusedSimpArgs false
attribute [local irreducible] awp aops aop aput aseq ablock TriX Tri Ret Fresh dq adraw dtail dals dfin Wk

theorem foldl_take {α β : Type} (f : β → α → β) (b : β) (l : List α) (k : Nat) (h : k < l.length) : (l.take (k + 1)).foldl f b = f ((l.take k).foldl f b) l[k] := by
  rw [List.take_succ_eq_append_getElem h, List.foldl_append]
  rfl
set_option maxHeartbeats 4000000 in
theorem eachT (v : V) (hv : v.ok) (f bm : Nat) (acc : Int → V → Int) (hf : FnOk Tryd.prog f) (n0 : Int) (σ : St) (hσ : σ.own bm = some (.box 3 [.i n0]))
    (H : Hid (∀ x ∈ v.parts, ∀ n τ, τ.own bm = some (.box 3 [.i n]) → Tri Tryd.prog f [.agg x.d, .at bm 0] τ fun d τ' => d = .tup [] ∧ τ' = τ.set bm (some (.box 3 [.i (acc n x)])))) :
    Tri Tryd.prog 56 [.agg v.d, .fn (.func f) [] [.at bm 0]] σ fun d τ => d = .tup [] ∧ τ = σ.set bm (some (.box 3 [.i (v.parts.foldl acc n0)])) := by
  have hpl := V.parts_len hv
  have hm' : ∀ k y i t l m, v = V.mk k y i t l m → m.length * 104 ≤ 140737488351232 := by rintro k y i t l m rfl; rw [V.ok] at hv; exact hv.2.2.1
  obtain ⟨ps, hps⟩ : ∃ ps, ps = v.parts := ⟨_, rfl⟩
  rw [← hps] at H hpl ⊢
  obtain ⟨k, y, i, t, l, m⟩ := v
  rw [V.parts] at hps
  have hm := hm' k y i t l m rfl
  clear hm'
  clear hv
  have HF := Lib.hid hf
  rw [V.d, V.ds_map, V.dm_map]
  refine tri_fn Tryd.func56 rfl Tryd.ntmps56 Tryd.results56 (Nat.le_of_ble_eq_true rfl) ?_
  by_cases h4 : k = 4
  · subst h4
    rw [if_pos rfl] at hps
    subst hps
    refine' wlk0
    refine' genS
    have hown2 := HLE.out _ _ hσ
    refine awp_loopM [5, 15, 16, 17, 18, 19, 20, 21, 22] (fun X τ => ∃ k : Nat, k ≤ ps.length ∧ X 15 = .i k ∧ τ = σ1.set bm (some (.box 3 [.i ((ps.take k).foldl acc n0)]))) (fun X _ => ps.length - (X 15).int.toNat) ?_ ?_
    · refine .same ⟨mix_self _ _, 0, by omega, ?_, ?_⟩
      · simp [*]
      · rw [List.take_zero, List.foldl_nil, set_same hown2]
    · rintro X τ ⟨k, hk, h15, rfl⟩ _ hL
      by_cases hlt : k < ps.length
      · have IH := Lib.hid (H.out ps[k] (List.getElem_mem hlt) ((ps.take k).foldl acc n0))
        have hft := Lib.hid (foldl_take acc n0 ps k hlt)
        rw [← hft.out] at IH
        obtain ⟨a0, ha0⟩ : ∃ a0, a0 = (ps.take k).foldl acc n0 := ⟨_, rfl⟩
        obtain ⟨a1, ha1⟩ : ∃ a1, a1 = (ps.take (k + 1)).foldl acc n0 := ⟨_, rfl⟩
        rw [← ha0, ← ha1] at IH
        rw [← ha0]
        clear ha0 hft
        have HA := Lib.hid ha1
        clear ha1
        repeat (first | ((first | refine aops_cons (fun K9 hO => ?_) | (refine aops_guardT rfl ?_ (fun K9 hO => ?_); (focus (simp [*]; done)))); simp [*]; (try simp (discharger := omega) only [wrap_i64, dec_t, dec_f]); (first | ((try (first | refine .inl ⟨by omega, by omega, ?_⟩ | refine ⟨by omega, by omega, ?_⟩ | refine ⟨by omega, ?_⟩ | refine .inl ?_)); (first | (intro b; intros; (try have hneA := ne_own (b := b) hown1 (by assumption)); (try have hneB := ne_own (b := b) hown2 (by assumption)); (try have hneC := ne_own (b := b) hown3 (by assumption)); refine hO.out _ _ ?_) | refine hO.out _ _ ?_)) | ((first | refine Tri.call (IH.out _ (by simp [*])) ?_); (first | rintro _ _ ⟨rfl, h9⟩; replace h9 := h9.symm; subst h9 | rintro _ _ ⟨_, rfl, rfl⟩ | rintro _ _ ⟨_, _, rfl, rfl⟩ | rintro _ _ ⟨_, _, _, rfl, rfl⟩); refine hO.out _ _ ?_)); clear hO; (try clear K9); (first | refine aput_some (by decide) ?_ | refine aput_none ?_)) | refine aops_nil ?_ | refine aseq_normal ?_ | refine aseq_ret ?_ | refine aseq_exit ?_ | refine ablock_normal ?_ | refine ablock_ret ?_ | refine ablock_same ?_ | refine ablock_other (by decide) ?_ | ((repeat ((fail_if_success (refine hK.out _ _ ?_)); clear hK; (try clear hP EG); (try clear KS))); refine hK.out _ _ ?_; clear hK; (try clear hP EG); try clear KS) | refine awp_seq (fun KS hK => ?_) | refine awp_region (fun KS EG hK hP => ?_) | refine awp_block ?_ | refine awp_skip ?_ | refine awp_ret ?_ | refine awp_exit ?_ | (refine awp_condT ?_ ?_; (focus (simp [*]; done))) | (refine awp_condF ?_ ?_; (focus (simp [*]; done))) | ((first | (refine aops_guardF rfl ?_ ?_; (focus (simp [*]; done))) | (refine aops_guardU rfl ?_ ?_; (focus (simp [*]; done)))); (first | refine aput_some (by decide) ?_ | refine aput_none ?_)))
        refine hL.out _ _ (.less (σ1.set bm _) leT (.same ⟨mixT, ⟨k + 1, by omega, ?_, by rw [HA.out]⟩, ?_⟩))
        · simp [*]
        · simp [*, D.int]; omega
      · have hke : k = ps.length := by omega
        rw [hke, List.take_length]
        rw [hke] at h15
        clear hke hlt hk
        refine' wlk0
        ((try simp [*]); (try simp (discharger := omega) only [wrap_i64, dec_t, dec_f]))
        exact .mk _ (σ.set bm _) (.refl _) (St.set_le HLE.out) ⟨rfl, rfl⟩
  by_cases h5 : k = 5
  · subst h5
    rw [if_neg (by decide), if_pos rfl] at hps
    have HM := Lib.hid (show m.length = ps.length by rw [hps, List.length_map])
    have HPS := Lib.hid hps
    have hpl2 : m.length * 104 ≤ 140737488351232 := hm
    clear hps
    refine' wlk0
    refine' genS
    have hown2 := HLE.out _ _ hσ
    refine awp_loopM [7, 28, 29, 30, 31, 32, 33, 34, 35, 36] (fun X τ => ∃ k : Nat, k ≤ m.length ∧ X 28 = .i k ∧ τ = σ1.set bm (some (.box 3 [.i ((ps.take k).foldl acc n0)]))) (fun X _ => m.length - (X 28).int.toNat) ?_ ?_
    · refine .same ⟨mix_self _ _, 0, by omega, ?_, ?_⟩
      · simp [*]
      · rw [List.take_zero, List.foldl_nil, set_same hown2]
    · rintro X τ ⟨k, hk, h28, rfl⟩ _ hL
      by_cases hlt : k < m.length
      · have hpk : ps[k]'(by have := HM.out; omega) = m[k].2 := by have h := HPS.out; subst h; rw [List.getElem_map]
        have IH := Lib.hid (H.out ps[k] (List.getElem_mem (by have := HM.out; omega)) ((ps.take k).foldl acc n0))
        have hft := Lib.hid (foldl_take acc n0 ps k (by have := HM.out; omega))
        rw [← hft.out] at IH
        rw [hpk] at IH
        obtain ⟨a0, ha0⟩ : ∃ a0, a0 = (ps.take k).foldl acc n0 := ⟨_, rfl⟩
        obtain ⟨a1, ha1⟩ : ∃ a1, a1 = (ps.take (k + 1)).foldl acc n0 := ⟨_, rfl⟩
        rw [← ha0, ← ha1] at IH
        rw [← ha0]
        clear ha0 hft hpk
        have HA := Lib.hid ha1
        clear ha1
        repeat (first | ((first | refine aops_cons (fun K9 hO => ?_) | (refine aops_guardT rfl ?_ (fun K9 hO => ?_); (focus (simp [*]; done)))); simp [*]; (try simp (discharger := omega) only [wrap_i64, dec_t, dec_f]); (first | ((try (first | refine .inl ⟨by omega, by omega, ?_⟩ | refine ⟨by omega, by omega, ?_⟩ | refine ⟨by omega, ?_⟩ | refine .inl ?_)); (first | (intro b; intros; (try have hneA := ne_own (b := b) hown1 (by assumption)); (try have hneB := ne_own (b := b) hown2 (by assumption)); (try have hneC := ne_own (b := b) hown3 (by assumption)); refine hO.out _ _ ?_) | refine hO.out _ _ ?_)) | ((first | refine Tri.call (IH.out _ (by simp [*])) ?_); (first | rintro _ _ ⟨rfl, h9⟩; replace h9 := h9.symm; subst h9 | rintro _ _ ⟨_, rfl, rfl⟩ | rintro _ _ ⟨_, _, rfl, rfl⟩ | rintro _ _ ⟨_, _, _, rfl, rfl⟩); refine hO.out _ _ ?_)); clear hO; (try clear K9); (first | refine aput_some (by decide) ?_ | refine aput_none ?_)) | refine aops_nil ?_ | refine aseq_normal ?_ | refine aseq_ret ?_ | refine aseq_exit ?_ | refine ablock_normal ?_ | refine ablock_ret ?_ | refine ablock_same ?_ | refine ablock_other (by decide) ?_ | ((repeat ((fail_if_success (refine hK.out _ _ ?_)); clear hK; (try clear hP EG); (try clear KS))); refine hK.out _ _ ?_; clear hK; (try clear hP EG); try clear KS) | refine awp_seq (fun KS hK => ?_) | refine awp_region (fun KS EG hK hP => ?_) | refine awp_block ?_ | refine awp_skip ?_ | refine awp_ret ?_ | refine awp_exit ?_ | (refine awp_condT ?_ ?_; (focus (simp [*]; done))) | (refine awp_condF ?_ ?_; (focus (simp [*]; done))) | ((first | (refine aops_guardF rfl ?_ ?_; (focus (simp [*]; done))) | (refine aops_guardU rfl ?_ ?_; (focus (simp [*]; done)))); (first | refine aput_some (by decide) ?_ | refine aput_none ?_)))
        refine hL.out _ _ (.less (σ1.set bm _) leT (.same ⟨mixT, ⟨k + 1, by omega, ?_, by rw [HA.out]⟩, ?_⟩))
        · simp [*]
        · simp [*, D.int]; omega
      · have hke : k = m.length := by omega
        rw [show ps.take k = ps by rw [hke, HM.out, List.take_length]]
        rw [hke] at h28
        clear hke hlt hk
        refine' wlk0
        ((try simp [*]); (try simp (discharger := omega) only [wrap_i64, dec_t, dec_f]))
        exact .mk _ (σ.set bm _) (.refl _) (St.set_le HLE.out) ⟨rfl, rfl⟩
  rw [if_neg h4, if_neg h5] at hps
  subst hps
  refine' wlk0
  ((try simp [*]); (try simp (discharger := omega) only [wrap_i64, dec_t, dec_f]))
  exact .mk _ σ (.refl _) leT ⟨rfl, by first | exact (set_same hσ).symm | (rw [List.foldl_nil, set_same hσ])⟩
theorem V.depL_fold : ∀ (l : List V) (a : Int), V.depL a l = l.foldl (fun a x => max a x.dep) a
  | [], _ => rfl
  | v :: l, a => by rw [V.depL, V.depL_fold l, List.foldl_cons]
theorem V.cntL_fold : ∀ (l : List V) (a : Int), V.cntL a l = l.foldl (fun a x => IntKind.i64.wrap (a + x.cnt)) a
  | [], _ => rfl
  | v :: l, a => by rw [V.cntL, V.cntL_fold l, List.foldl_cons]
set_option maxHeartbeats 4000000 in
theorem dep1T (x : V) (bm : Nat) (n vv : Int) (σ : St) (hσ : σ.own bm = some (.box 3 [.i n])) (H : Hid (∀ σ, Tri Tryd.prog 33 [.agg x.d] σ fun d τ => d = .i vv ∧ τ = σ)) :
    Tri Tryd.prog 57 [.agg x.d, .at bm 0] σ fun d τ => d = .tup [] ∧ τ = σ.set bm (some (.box 3 [.i (max n vv)])) := by
  obtain ⟨dv, hdv⟩ : ∃ dv, dv = x.d := ⟨_, rfl⟩
  have hd6 : dv.length = 6 := hdv ▸ V.d_len x
  have ht6 : dv.take 6 = dv := List.take_of_length_le (by omega)
  rw [← hdv] at H ⊢
  clear hdv
  refine tri_fn Tryd.func57 rfl Tryd.ntmps57 Tryd.results57 (Nat.le_of_ble_eq_true rfl) ?_
  refine' wlk0
  refine' genS
  have hown2 := HLE.out _ _ hσ
  (refine awp_draw (fun KS EG hK hP => ?_); refine draw_rule rfl [(0, false), (1, false), (2, false), (3, false)] [] [4] (by kernel_rfl) ?_; refine' dqs1 H.out)
  refine' wlk0
  ((try simp [*]); (try simp (discharger := omega) only [wrap_i64, dec_t, dec_f]))
  exact .mk _ (σ.set bm _) (.refl _) (St.set_le HLE.out) ⟨rfl, rfl⟩
set_option maxHeartbeats 4000000 in
theorem cnt1T (x : V) (bm : Nat) (n vv : Int) (σ : St) (hσ : σ.own bm = some (.box 3 [.i n])) (H : Hid (∀ σ, Tri Tryd.prog 34 [.agg x.d] σ fun d τ => d = .i vv ∧ τ = σ)) :
    Tri Tryd.prog 58 [.agg x.d, .at bm 0] σ fun d τ => d = .tup [] ∧ τ = σ.set bm (some (.box 3 [.i (IntKind.i64.wrap (n + vv))])) := by
  obtain ⟨dv, hdv⟩ : ∃ dv, dv = x.d := ⟨_, rfl⟩
  have hd6 : dv.length = 6 := hdv ▸ V.d_len x
  have ht6 : dv.take 6 = dv := List.take_of_length_le (by omega)
  rw [← hdv] at H ⊢
  clear hdv
  refine tri_fn Tryd.func58 rfl Tryd.ntmps58 Tryd.results58 (Nat.le_of_ble_eq_true rfl) ?_
  refine' wlk0
  refine' genS
  have hown2 := HLE.out _ _ hσ
  (refine awp_draw (fun KS EG hK hP => ?_); refine draw_rule rfl [(0, false), (1, false), (2, false), (3, true)] [] [4] (by kernel_rfl) ?_; refine' dqs1 H.out)
  refine' wlk0
  ((try simp [*]); (try simp (discharger := omega) only [wrap_i64, dec_t, dec_f]))
  exact .mk _ (σ.set bm _) (.refl _) (St.set_le HLE.out) ⟨rfl, rfl⟩
set_option maxHeartbeats 4000000 in
theorem depthPT (v : V) (σ : St) (hv : v.ok) : Tri Tryd.prog 33 [.agg v.d] σ fun d τ => d = .i v.dep ∧ τ = σ := by
  obtain ⟨N, hN⟩ : ∃ N, N = v.w := ⟨_, rfl⟩
  induction N using Nat.strongRecOn generalizing v σ with
  | _ N ih =>
    subst hN
    have HRES := Lib.hid (V.dep_parts v)
    have EA := Lib.hid (fun bm n0 σ hσ => eachT v hv 57 bm (fun a x => max a x.dep) (by simp) n0 σ hσ
      (Lib.hid fun x hx n τ hτ => dep1T x bm n x.dep τ hτ (Lib.hid fun σ => ih x.w (V.parts_w hx) x σ (V.parts_ok hv hx) rfl)))
    clear ih hv
    obtain ⟨ps, hps⟩ : ∃ ps, ps = v.parts := ⟨_, rfl⟩
    rw [← hps] at EA HRES
    clear hps
    obtain ⟨k, y, i, t, l, m⟩ := v
    rw [V.d, V.ds_map, V.dm_map] at EA ⊢
    refine tri_fn Tryd.func33 rfl Tryd.ntmps33 Tryd.results33 (Nat.le_of_ble_eq_true rfl) ?_
    by_cases h45 : k = 4 ∨ k = 5
    · replace HRES := Lib.hid (HRES.out.trans (if_pos h45))
      have hm4 : (k = 4 ∧ ¬ k = 5) ∨ (¬ k = 4 ∧ k = 5) := by omega
      clear h45
      rcases hm4 with ⟨rfl, h5⟩ | ⟨h4, rfl⟩
      · repeat (first | ((first | refine aops_cons (fun K9 hO => ?_) | (refine aops_guardT rfl ?_ (fun K9 hO => ?_); (focus (simp [*]; done)))); simp [*]; (try simp (discharger := omega) only [wrap_i64, dec_t, dec_f]); (first | ((try (first | refine .inl ⟨by omega, by omega, ?_⟩ | refine ⟨by omega, by omega, ?_⟩ | refine ⟨by omega, ?_⟩ | refine .inl ?_)); (first | (intro b; intros; (try have hneA := ne_own (b := b) hown1 (by assumption)); (try have hneB := ne_own (b := b) hown2 (by assumption)); (try have hneC := ne_own (b := b) hown3 (by assumption)); refine hO.out _ _ ?_) | refine hO.out _ _ ?_)) | ((first | refine Tri.call (EA.out _ 0 _ (by simp [*])) ?_); (first | rintro _ _ ⟨rfl, h9⟩; replace h9 := h9.symm; subst h9 | rintro _ _ ⟨_, rfl, rfl⟩ | rintro _ _ ⟨_, _, rfl, rfl⟩ | rintro _ _ ⟨_, _, _, rfl, rfl⟩); refine hO.out _ _ ?_)); clear hO; (try clear K9); (first | refine aput_some (by decide) ?_ | refine aput_none ?_)) | refine aops_nil ?_ | refine aseq_normal ?_ | refine aseq_ret ?_ | refine aseq_exit ?_ | refine ablock_normal ?_ | refine ablock_ret ?_ | refine ablock_same ?_ | refine ablock_other (by decide) ?_ | ((repeat ((fail_if_success (refine hK.out _ _ ?_)); clear hK; (try clear hP EG); (try clear KS))); refine hK.out _ _ ?_; clear hK; (try clear hP EG); try clear KS) | refine awp_seq (fun KS hK => ?_) | refine awp_region (fun KS EG hK hP => ?_) | refine awp_block ?_ | refine awp_skip ?_ | refine awp_ret ?_ | refine awp_exit ?_ | (refine awp_condT ?_ ?_; (focus (simp [*]; done))) | (refine awp_condF ?_ ?_; (focus (simp [*]; done))) | ((first | (refine aops_guardF rfl ?_ ?_; (focus (simp [*]; done))) | (refine aops_guardU rfl ?_ ?_; (focus (simp [*]; done)))); (first | refine aput_some (by decide) ?_ | refine aput_none ?_)))
        ((try simp [*]); (try simp (discharger := omega) only [wrap_i64, dec_t, dec_f]))
        exact .mk _ σ (.refl _) leT ⟨by rw [HRES.out, V.depL_fold], rfl⟩
      · repeat (first | ((first | refine aops_cons (fun K9 hO => ?_) | (refine aops_guardT rfl ?_ (fun K9 hO => ?_); (focus (simp [*]; done)))); simp [*]; (try simp (discharger := omega) only [wrap_i64, dec_t, dec_f]); (first | ((try (first | refine .inl ⟨by omega, by omega, ?_⟩ | refine ⟨by omega, by omega, ?_⟩ | refine ⟨by omega, ?_⟩ | refine .inl ?_)); (first | (intro b; intros; (try have hneA := ne_own (b := b) hown1 (by assumption)); (try have hneB := ne_own (b := b) hown2 (by assumption)); (try have hneC := ne_own (b := b) hown3 (by assumption)); refine hO.out _ _ ?_) | refine hO.out _ _ ?_)) | ((first | refine Tri.call (EA.out _ 0 _ (by simp [*])) ?_); (first | rintro _ _ ⟨rfl, h9⟩; replace h9 := h9.symm; subst h9 | rintro _ _ ⟨_, rfl, rfl⟩ | rintro _ _ ⟨_, _, rfl, rfl⟩ | rintro _ _ ⟨_, _, _, rfl, rfl⟩); refine hO.out _ _ ?_)); clear hO; (try clear K9); (first | refine aput_some (by decide) ?_ | refine aput_none ?_)) | refine aops_nil ?_ | refine aseq_normal ?_ | refine aseq_ret ?_ | refine aseq_exit ?_ | refine ablock_normal ?_ | refine ablock_ret ?_ | refine ablock_same ?_ | refine ablock_other (by decide) ?_ | ((repeat ((fail_if_success (refine hK.out _ _ ?_)); clear hK; (try clear hP EG); (try clear KS))); refine hK.out _ _ ?_; clear hK; (try clear hP EG); try clear KS) | refine awp_seq (fun KS hK => ?_) | refine awp_region (fun KS EG hK hP => ?_) | refine awp_block ?_ | refine awp_skip ?_ | refine awp_ret ?_ | refine awp_exit ?_ | (refine awp_condT ?_ ?_; (focus (simp [*]; done))) | (refine awp_condF ?_ ?_; (focus (simp [*]; done))) | ((first | (refine aops_guardF rfl ?_ ?_; (focus (simp [*]; done))) | (refine aops_guardU rfl ?_ ?_; (focus (simp [*]; done)))); (first | refine aput_some (by decide) ?_ | refine aput_none ?_)))
        ((try simp [*]); (try simp (discharger := omega) only [wrap_i64, dec_t, dec_f]))
        exact .mk _ σ (.refl _) leT ⟨by rw [HRES.out, V.depL_fold], rfl⟩
    · have h4 : ¬ k = 4 := by omega
      have h5 : ¬ k = 5 := by omega
      have H45 := Lib.hid h45
      clear h45
      refine' wlk0
      ((try simp [*]); (try simp (discharger := omega) only [wrap_i64, dec_t, dec_f]))
      exact .mk _ σ (.refl _) leT ⟨by rw [HRES.out]; simp [h4, h5], rfl⟩
set_option maxHeartbeats 4000000 in
theorem sizePT (v : V) (σ : St) (hv : v.ok) : Tri Tryd.prog 34 [.agg v.d] σ fun d τ => d = .i v.cnt ∧ τ = σ := by
  obtain ⟨N, hN⟩ : ∃ N, N = v.w := ⟨_, rfl⟩
  induction N using Nat.strongRecOn generalizing v σ with
  | _ N ih =>
    subst hN
    have HRES := Lib.hid (V.cnt_parts v)
    have EA := Lib.hid (fun bm n0 σ hσ => eachT v hv 58 bm (fun a x => IntKind.i64.wrap (a + x.cnt)) (by simp) n0 σ hσ
      (Lib.hid fun x hx n τ hτ => cnt1T x bm n x.cnt τ hτ (Lib.hid fun σ => ih x.w (V.parts_w hx) x σ (V.parts_ok hv hx) rfl)))
    clear ih hv
    obtain ⟨ps, hps⟩ : ∃ ps, ps = v.parts := ⟨_, rfl⟩
    rw [← hps] at EA HRES
    clear hps
    obtain ⟨dv, hdv⟩ : ∃ dv, dv = v.d := ⟨_, rfl⟩
    have hd6 : dv.length = 6 := hdv ▸ V.d_len v
    have ht6 : dv.take 6 = dv := List.take_of_length_le (by omega)
    rw [← hdv] at EA ⊢
    clear hdv
    refine tri_fn Tryd.func34 rfl Tryd.ntmps34 Tryd.results34 (Nat.le_of_ble_eq_true rfl) ?_
    repeat (first | ((first | refine aops_cons (fun K9 hO => ?_) | (refine aops_guardT rfl ?_ (fun K9 hO => ?_); (focus (simp [*]; done)))); simp [*]; (try simp (discharger := omega) only [wrap_i64, dec_t, dec_f]); (first | ((try (first | refine .inl ⟨by omega, by omega, ?_⟩ | refine ⟨by omega, by omega, ?_⟩ | refine ⟨by omega, ?_⟩ | refine .inl ?_)); (first | (intro b; intros; (try have hneA := ne_own (b := b) hown1 (by assumption)); (try have hneB := ne_own (b := b) hown2 (by assumption)); (try have hneC := ne_own (b := b) hown3 (by assumption)); refine hO.out _ _ ?_) | refine hO.out _ _ ?_)) | ((first | refine Tri.call (EA.out _ 1 _ (by simp [*])) ?_); (first | rintro _ _ ⟨rfl, h9⟩; replace h9 := h9.symm; subst h9 | rintro _ _ ⟨_, rfl, rfl⟩ | rintro _ _ ⟨_, _, rfl, rfl⟩ | rintro _ _ ⟨_, _, _, rfl, rfl⟩); refine hO.out _ _ ?_)); clear hO; (try clear K9); (first | refine aput_some (by decide) ?_ | refine aput_none ?_)) | refine aops_nil ?_ | refine aseq_normal ?_ | refine aseq_ret ?_ | refine aseq_exit ?_ | refine ablock_normal ?_ | refine ablock_ret ?_ | refine ablock_same ?_ | refine ablock_other (by decide) ?_ | ((repeat ((fail_if_success (refine hK.out _ _ ?_)); clear hK; (try clear hP EG); (try clear KS))); refine hK.out _ _ ?_; clear hK; (try clear hP EG); try clear KS) | refine awp_seq (fun KS hK => ?_) | refine awp_region (fun KS EG hK hP => ?_) | refine awp_block ?_ | refine awp_skip ?_ | refine awp_ret ?_ | refine awp_exit ?_ | (refine awp_condT ?_ ?_; (focus (simp [*]; done))) | (refine awp_condF ?_ ?_; (focus (simp [*]; done))) | ((first | (refine aops_guardF rfl ?_ ?_; (focus (simp [*]; done))) | (refine aops_guardU rfl ?_ ?_; (focus (simp [*]; done)))); (first | refine aput_some (by decide) ?_ | refine aput_none ?_)))
    ((try simp [*]); (try simp (discharger := omega) only [wrap_i64, dec_t, dec_f]))
    exact .mk _ σ (.refl _) leT ⟨by rw [HRES.out, V.cntL_fold], rfl⟩
end Go.Proofs.YtmjendeigjdihaaDoor
/-
  Values (chapter 1): maps of unlike keys; the law ValueGets.
-/
namespace Go.Proofs.YtmjendeigjdihaaDoor
open Go.RowKit
set_option maxRecDepth 100000
set_option linter.unusedVariables false
set_option linter.unusedSimpArgs false
attribute [local irreducible] awp aops aop aput aseq ablock TriX Tri Ret Fresh dq adraw dtail dals dfin Wk

/-- The number k, as a value; a member that has it. -/
def iV (k : Nat) : V := .mk 2 false k ByteArray.empty [] []
def gM (x : ByteArray × Nat) : Mem := (x.1, iV x.2)
def gRaw (x : ByteArray × Nat) : List D := [.s x.1, .i 2, .b false, .i x.2, .s ByteArray.empty, .v (.slice none 0 0), .v (.slice none 0 0)]
def gE (x : ByteArray × Nat) : Value × D := (.string x.1, .i (x.2 + 1))
def idxK : List (ByteArray × Nat) → ByteArray → Option Nat
  | [], _ => none
  | x :: l, s => if s = x.1 then some x.2 else idxK l s
theorem mfind_gE : ∀ (l : List (ByteArray × Nat)) (s : ByteArray), mfind (l.map gE) s = (idxK l s).map fun j => .i (j + 1)
  | [], s => rfl
  | x :: l, s => by
    rw [List.map_cons, gE, mfind, idxK, mfind_gE l]
    split <;> rfl
theorem getM_gM : ∀ (l : List (ByteArray × Nat)) (s : ByteArray), getM (l.map gM) s = (idxK l s).map iV
  | [], s => rfl
  | x :: l, s => by
    rw [List.map_cons, gM, getM, idxK, getM_gM l]
    by_cases h : s = x.1
    · rw [if_pos h, if_pos h.symm]; rfl
    · rw [if_neg h, if_neg (Ne.symm h)]
theorem mkeys_gE (l : List (ByteArray × Nat)) : mkeys (l.map gE) := by
  intro y hy
  obtain ⟨x, _, rfl⟩ := List.mem_map.1 hy
  exact ⟨_, rfl⟩
theorem mput_gE : ∀ (l : List (ByteArray × Nat)) (s : ByteArray) (d : D), idxK l s = none → mput (l.map gE) s d = l.map gE ++ [(.string s, d)]
  | [], s, d, _ => rfl
  | x :: l, s, d, h => by
    rw [idxK] at h
    by_cases hs : s = x.1
    · rw [if_pos hs] at h; simp at h
    · rw [if_neg hs] at h
      rw [List.map_cons, gE, mput, if_neg hs, mput_gE l s d h]
      rfl
theorem idxK_none : ∀ (l : List (ByteArray × Nat)) (s : ByteArray), idxK l s = none ↔ ∀ x ∈ l, ¬ x.1 = s
  | [], s => by simp [idxK]
  | x :: l, s => by
    rw [idxK]
    simp only [List.mem_cons, forall_eq_or_imp]
    by_cases h : s = x.1
    · simp [h]
    · rw [if_neg h, idxK_none l s]
      exact ⟨fun g => ⟨Ne.symm h, g⟩, fun g => g.2⟩
/-- No key stands twice. -/
def Unlike (l : List (ByteArray × Nat)) : Prop := l.Pairwise fun x y => ¬ x.1 = y.1
theorem idxK_at : ∀ (l : List (ByteArray × Nat)) (k : Nat) (h : k < l.length), Unlike l → idxK l l[k].1 = some l[k].2
  | x :: l, 0, _, _ => by simp [idxK]
  | x :: l, k + 1, h, hu => by
    have h' : k < l.length := by simpa using h
    obtain ⟨h1, h2⟩ := List.pairwise_cons.1 hu
    rw [List.getElem_cons_succ, idxK, if_neg (Ne.symm (h1 _ (List.getElem_mem h')))]
    exact idxK_at l k h' h2
theorem unlike_take {l : List (ByteArray × Nat)} {k : Nat} (h : k < l.length) (hu : Unlike (l.take k)) (hn : idxK (l.take k) l[k].1 = none) : Unlike (l.take (k + 1)) := by
  rw [List.take_succ_eq_append_getElem h]
  refine List.pairwise_append.2 ⟨hu, by simp, fun x hx y hy => ?_⟩
  rw [List.mem_singleton.1 hy]
  exact (idxK_none _ _).1 hn x hx
/-- In a list of members each key but once. -/
def OnceM (l : List Mem) : Prop := ∀ q : ByteArray, (l.filter fun x => decide (x.1 = q)).length ≤ 1
theorem once_dup : ∀ (l : List Mem), OnceM l → dupK l = none
  | [], _ => rfl
  | [x], _ => rfl
  | x :: y :: l, h => by
    have hne : ¬ x.1 = y.1 := fun e => by
      have := h y.1
      simp [e] at this
    rw [dupK, if_neg hne]
    refine once_dup (y :: l) fun q => ?_
    have := h q
    rw [List.filter_cons] at this
    split at this
    · simp only [List.length_cons] at this; omega
    · exact this
theorem once_gM : ∀ (l : List (ByteArray × Nat)), Unlike l → OnceM (l.map gM)
  | [], _, q => by simp
  | x :: l, h, q => by
    obtain ⟨h1, h2⟩ := List.pairwise_cons.1 h
    have ih := once_gM l h2 q
    rw [List.map_cons, List.filter_cons]
    split
    · rename_i e
      have e' : x.1 = q := of_decide_eq_true e
      have : (l.map gM).filter (fun x => decide (x.1 = q)) = [] := by
        rw [List.filter_eq_nil_iff]
        intro z hz
        obtain ⟨y, hy, rfl⟩ := List.mem_map.1 hz
        have := h1 y hy
        rw [e'] at this
        exact fun e => this (of_decide_eq_true e : y.1 = q).symm
      rw [this]
      simp
    · exact ih
theorem getM_head : ∀ (m : List Mem) (s : ByteArray), getM m s = ((m.filter fun x => decide (x.1 = s)).head?).map (·.2)
  | [], s => rfl
  | (k, v) :: m, s => by
    rw [getM, List.filter_cons]
    by_cases h : k = s
    · simp [h]
    · simp [h, getM_head m s]
theorem getM_perm {l r : List Mem} (h : StPerm l r) (s : ByteArray) : getM l s = getM r s := by rw [getM_head, getM_head, h s]
/-- The map of the keys. -/
def gMs (l : List (ByteArray × Nat)) : V := .mk 5 false 0 ByteArray.empty [] (sortM (l.map gM))
theorem gMs_mem {l : List (ByteArray × Nat)} {x : Mem} (h : x ∈ sortM (l.map gM)) : ∃ y ∈ l, x = gM y := by
  rw [← StPerm.mem (sortM_perm _)] at h
  obtain ⟨y, hy, rfl⟩ := List.mem_map.1 h
  exact ⟨y, hy, rfl⟩
theorem gMs_get (l : List (ByteArray × Nat)) (s : ByteArray) : (gMs l).get s = (idxK l s).map iV := by
  rw [gMs, V.get]
  simp only [if_true]
  rw [← getM_perm (sortM_perm _), getM_gM]
theorem depL_flat : ∀ (m : List V), (∀ x ∈ m, x.dep = 0) → V.depL 0 m = 0
  | [], _ => rfl
  | x :: m, h => by
    rw [V.depL, h x List.mem_cons_self]
    exact depL_flat m fun y hy => h y (List.mem_cons_of_mem _ hy)
theorem cntL_flat : ∀ (m : List V) (a : Nat), (∀ x ∈ m, x.cnt = 1) → a + m.length ≤ 1000 → V.cntL a m = (a + m.length : Nat)
  | [], a, _, _ => by simp [V.cntL]
  | x :: m, a, h, hl => by
    simp only [List.length_cons] at hl
    rw [V.cntL, h x List.mem_cons_self, wrap_i64 _ (by omega) (by omega), show (a : Int) + 1 = ((a + 1 : Nat) : Int) by omega, cntL_flat m (a + 1) (fun y hy => h y (List.mem_cons_of_mem _ hy)) (by omega)]
    simp only [List.length_cons]
    omega
theorem gMs_dep (l : List (ByteArray × Nat)) : (gMs l).dep = 1 := by
  rw [gMs, V.dep]
  simp only [show ¬ (5 : Int) = 4 by decide, if_true, if_false]
  rw [V.depM_map, depL_flat]
  · rfl
  · intro x hx
    obtain ⟨z, hz, rfl⟩ := List.mem_map.1 hx
    obtain ⟨y, _, rfl⟩ := gMs_mem hz
    simp [gM, iV, V.dep]
theorem gMs_cnt (l : List (ByteArray × Nat)) (hl : l.length ≤ 30) : (gMs l).cnt = l.length + 1 := by
  rw [gMs, V.cnt]
  simp only [show ¬ (5 : Int) = 4 by decide, if_true, if_false]
  rw [V.cntM_map]
  have := cntL_flat ((sortM (l.map gM)).map (·.2)) 1 (fun x hx => by
    obtain ⟨z, hz, rfl⟩ := List.mem_map.1 hx
    obtain ⟨y, _, rfl⟩ := gMs_mem hz
    simp [gM, iV, V.cnt]) (by rw [List.length_map, sortM_len, List.length_map]; omega)
  rw [List.length_map, sortM_len, List.length_map] at this
  rw [show (1 : Int) = ((1 : Nat) : Int) from rfl, this]
  omega
theorem gM_ok : ∀ (l : List (ByteArray × Nat)), (∀ x ∈ l, x.1.size ≤ 140737488351232) → V.okm (l.map gM)
  | [], _ => trivial
  | x :: l, h => ⟨h x List.mem_cons_self, ⟨by decide, by simp, by simp, trivial, trivial⟩, gM_ok l fun y hy => h y (List.mem_cons_of_mem _ hy)⟩
theorem okm_all : ∀ (m : List (ByteArray × V)), (∀ x ∈ m, x.1.size ≤ 140737488351232 ∧ x.2.ok) → V.okm m
  | [], _ => trivial
  | (k, v) :: m, h => ⟨(h (k, v) List.mem_cons_self).1, (h (k, v) List.mem_cons_self).2, okm_all m fun x hx => h x (List.mem_cons_of_mem _ hx)⟩
theorem gMs_ok (l : List (ByteArray × Nat)) (hl : l.length ≤ 30) (h : ∀ x ∈ l, x.1.size ≤ 140737488351232) : (gMs l).ok := by
  refine ⟨by decide, by simp, by rw [sortM_len, List.length_map]; omega, trivial, okm_all _ fun x hx => ?_⟩
  obtain ⟨y, hy, rfl⟩ := gMs_mem hx
  exact ⟨h y hy, by decide, by simp, by simp, trivial, trivial⟩
theorem gMs_made (l : List (ByteArray × Nat)) (hu : Unlike l) : membersD (sortM (l.map gM)) = .tup [.agg (gMs l).d, .v .nilIface] := by
  rw [membersD, once_dup _ fun q => by rw [← sortM_perm (l.map gM) q]; exact once_gM l hu q]
  rfl
theorem gMs_le {l : List (ByteArray × Nat)} {d : D} (h : D.Le d (.lst false 7 (l.map gRaw))) : LeGL [d] [.lst false 7 ((l.map gM).map mD)] := by
  rw [List.map_map]
  refine .cons (fun G x hx => ?_) .nil
  exact (LeG.lst (LeGS.of_map l fun y _ => .cons (.refl _) (v_nils 2 false y.2 ByteArray.empty)) : LeG (.lst false 7 (l.map gRaw)) (.lst false 7 (l.map (mD ∘ gM)))) G x (hx.le h)
theorem gE_succ {l : List (ByteArray × Nat)} {k : Nat} (h : k < l.length) {s : ByteArray} (hk : l[k] = (s, k)) (hn : idxK (l.take k) s = none) :
    mput ((l.take k).map gE) s (.i (k + 1)) = (l.take (k + 1)).map gE := by
  rw [mput_gE _ _ _ hn, List.take_succ_eq_append_getElem h, List.map_append, hk]
  rfl
set_option maxHeartbeats 8000000 in
theorem valueGetsT (keys : List ByteArray) (other : ByteArray) (ho : keys.length * 16 ≤ 140737488351232 ∧ ∀ s ∈ keys, s.size ≤ 140737488351232) (hs : other.size ≤ 140737488351232) (σ : St) :
    Tri Tryd.prog 9 [.lst false 1 (keys.map fun s => [.s s]), .s other] σ fun d τ => d = .b true ∧ τ = σ := by
  obtain ⟨hlen, hsz⟩ := ho
  have AW := Lib.hid awakeT
  obtain ⟨l, hl⟩ : ∃ l, l = keys.zipIdx := ⟨_, rfl⟩
  have hll : l.length = keys.length := by rw [hl, List.length_zipIdx]
  have hla : ∀ (k : Nat) (h : k < keys.length), l[k]'(by omega) = (keys[k], k) := fun k h => by simp [hl]
  refine tri_fn Tryd.func9 rfl Tryd.ntmps9 Tryd.results9 (Nat.le_of_ble_eq_true rfl) ?_
  by_cases h30 : keys.length ≤ 30
  · by_cases h100 : other.size ≤ 100
    · have MT := Lib.hid (fun (d : D) (h : D.Le d (.lst false 7 (l.map gRaw))) (σ : St) => (membersPT (l.map gM) σ (by rw [List.length_map]; omega) (gM_ok l fun x hx => by
        obtain ⟨k, hk, rfl⟩ := List.mem_iff_getElem.1 hx
        rw [hla k (by omega)]
        exact hsz _ (List.getElem_mem _))).argsG (gMs_le h))
      have OK := Lib.hid (gMs_ok l (by omega) fun x hx => by
        obtain ⟨k, hk, rfl⟩ := List.mem_iff_getElem.1 hx
        rw [hla k (by omega)]
        exact hsz _ (List.getElem_mem _))
      replace hsz := Lib.hid hsz
      replace hla := Lib.hid hla
      clear hl
      refine' wlk1 AW.out
      obtain ⟨bm, hbm⟩ : ∃ bm, bm = b := ⟨_, rfl⟩
      subst hbm
      refine awp_loopM [4, 6, 7, 8, 33, 34, 35, 36, 37, 38, 39, 40, 41, 42, 43, 44, 45, 46, 47, 48, 49, 50, 51, 52, 53, 54, 55, 56, 57, 58] (fun X τ => ∃ (k : Nat) (dl : D) (τ0 : St), k ≤ l.length ∧ X 33 = .i k ∧ X 6 = dl ∧ Unlike (l.take k) ∧ Grow σ bm 45 7 ((l.map gRaw).take k) dl τ0 ∧ τ = τ0.set bm (some (.mp ((l.take k).map gE)))) (fun X _ => l.length - (X 33).int.toNat) ?_ ?_
      · refine .same ⟨mix_self _ _, 0, _, _, by omega, ?_, ?_, ?_, Grow.start _ _ _ _, ?_⟩
        · simp [*]
        · simp [*]
        · exact List.Pairwise.nil
        · simp [*]
      · rintro X τ ⟨k, dl, τ0, hk, h33, h6, hu, hg, rfl⟩ _ hL
        replace hu := Lib.hid hu
        by_cases hlt : k < l.length
        · have hlt' : k < keys.length := by omega
          have hlk := hla.out k hlt'
          have hmk := mkeys_gE (l.take k)
          have hmf := mfind_gE (l.take k) keys[k]
          obtain ⟨es, hes⟩ : ∃ es, es = (l.take k).map gE := ⟨_, rfl⟩
          rw [← hes] at hmk hmf ⊢
          replace hes := Lib.hid hes
          replace hlk := Lib.hid hlk
          have hkz := hsz.out keys[k] (List.getElem_mem _)
          have HL0 := Lib.hid hg.le.2
          by_cases hs100 : 100 < keys[k].size
          · refine' wlk0
            ((try simp [*]); (try simp (discharger := omega) only [wrap_i64, dec_t, dec_f]))
            exact .mk _ σ (.refl _) leT ⟨rfl, rfl⟩
          · cases hix : idxK (l.take k) keys[k] with
            | some j =>
              rw [hix] at hmf
              simp only [Option.map_some] at hmf
              clear hix
              refine' wlk0
              ((try simp [*]); (try simp (discharger := omega) only [wrap_i64, dec_t, dec_f]))
              exact .mk _ σ (.refl _) leT ⟨rfl, rfl⟩
            | none =>
              rw [hix] at hmf
              simp only [Option.map_none] at hmf
              have hu' := Lib.hid (unlike_take hlt hu.out (by rw [hlk.out]; exact hix))
              have hput := Lib.hid (gE_succ hlt hlk.out hix)
              rw [← hes.out] at hput
              clear hix
              rcases hg.cases_take hlt with ⟨rfl, rfl, hτ⟩ | ⟨bt, cap, g1, g3, g4, g2, rfl, hτ⟩
              · subst τ0
                clear hg
                refine' wlk0
                have hp1 : mput es keys[0] (.i 1) = (l.take 1).map gE := hput.out
                rw [set_comm σ (show bm ≠ b by assumption), hp1]
                refine hL.out _ _ (.less ((σ.set b (some (.tip 45 7 _ 1))).set bm _) leT (.same ⟨mixT, ⟨1, _, _, by omega, ?_, ?_, hu'.out, Grow.take0 hlt b _ (by assumption) (by assumption), rfl⟩, ?_⟩))
                · simp [*]
                · have := hlk.out
                  simp [*, gRaw]
                · simp [*, D.int]; omega
              · subst τ0
                clear hg
                have hmin : min k l.length = k := by omega
                have hmin2 : min k keys.length = k := by omega
                refine' wlk0
                rw [set_comm σ (show bm ≠ b by assumption), hput.out]
                refine hL.out _ _ (.less ((σ.set b (some (.tip 45 7 _ (k + 1)))).set bm _) leT (.same ⟨mixT, ⟨k + 1, _, _, by omega, ?_, ?_, hu'.out, Grow.take hlt b _ (by assumption) (by assumption), rfl⟩, ?_⟩))
                · simp [*]
                · have := hlk.out
                  simp [*, gRaw]
                · simp [*, D.int]; omega
        · have hke : k = l.length := by omega
          replace hg := hg.done hke
          rw [hke, List.take_of_length_le (Nat.le_refl _)] at hu ⊢
          rw [hke] at h33
          clear hke hlt hk
          have MP := Lib.hid (MT.out dl hg.le.1)
          rw [gMs_made l hu.out] at MP
          have SZ := Lib.hid (fun σ => sizePT (gMs l) σ OK.out)
          rw [gMs_cnt l (by omega), hll] at SZ
          have DP := Lib.hid (fun σ => depthPT (gMs l) σ OK.out)
          rw [gMs_dep] at DP
          have GP := Lib.hid (fun (s : ByteArray) (hs : s.size ≤ 140737488351232) σ => getPT (gMs l) s σ OK.out)
          have HL0 := Lib.hid hg.le.2
          have hfr0 := hg.fresh (by assumption)
          have hmk := mkeys_gE l
          have hmf := mfind_gE l other
          have hgo := gMs_get l other
          have IX := Lib.hid (fun (k : Nat) (h : k < l.length) => idxK_at l k h hu.out)
          have GG := Lib.hid (gMs_get l)
          obtain ⟨dv, hdv⟩ : ∃ dv, dv = (gMs l).d := ⟨_, rfl⟩
          have hd6 : dv.length = 6 := hdv ▸ V.d_len _
          have ht6 : dv.take 6 = dv := List.take_of_length_le (by omega)
          rw [← hdv] at MP SZ DP GP
          obtain ⟨es, hes⟩ : ∃ es, es = l.map gE := ⟨_, rfl⟩
          rw [← hes] at hmk hmf ⊢
          clear hg hdv hes MT OK
          refine' wlk3 MP.out SZ.out DP.out
          obtain ⟨b9, hb9⟩ : ∃ b9, b9 = b := ⟨_, rfl⟩
          subst hb9
          clear hL
          refine awp_loopM [4, 11, 12, 13, 14, 81, 82, 83, 84, 85, 86, 87, 88, 89, 90, 91, 92, 93, 94, 95, 96, 97, 98, 99, 100] (fun X τ => ∃ k : Nat, k ≤ l.length ∧ X 81 = .i k ∧ τ = (τ0.set bm (some (.mp es))).set b9 (some (.box 38 dv))) (fun X _ => l.length - (X 81).int.toNat) ?_ ?_
          · refine .same ⟨mix_self _ _, 0, by omega, ?_, ?_⟩
            · simp [*]
            · simp [*]
          · rintro Z τ ⟨k, hk, h81, rfl⟩ _ hL
            by_cases hlt : k < l.length
            · have hlt' : k < keys.length := by omega
              have hkz := hsz.out keys[k] (List.getElem_mem _)
              have GK := Lib.hid (GP.out keys[k] hkz)
              have hix := IX.out k hlt
              rw [hla.out k hlt'] at hix
              rw [GG.out, hix] at GK
              simp only [Option.map_some, getD, iV, V.d, V.ds, V.dm] at GK
              clear hix
              refine' wlk1 GK.out
              refine hL.out _ _ (.less ((τ0.set bm (some (.mp es))).set b9 (some (.box 38 dv))) leT (.same ⟨mixT, ⟨k + 1, by omega, ?_, rfl⟩, ?_⟩))
              · simp [*]
              · simp [*, D.int]; omega
            · have hke : k = l.length := by omega
              rw [hke] at h81
              clear hke hlt hk
              have GO := Lib.hid (GP.out other hs)
              rw [hgo] at GO
              cases hix : idxK l other with
              | none =>
                rw [hix] at GO hmf
                simp only [Option.map_none, getD] at GO hmf
                obtain ⟨dz, hdz⟩ : ∃ dz, dz = V.zero.d := ⟨_, rfl⟩
                have hd6' : dz.length = 6 := hdz ▸ V.d_len _
                have ht6' : dz.take 6 = dz := List.take_of_length_le (by omega)
                rw [← hdz] at GO
                clear hix hdz hgo
                refine' wlk1 GO.out
                ((try simp [*]); (try simp (discharger := omega) only [wrap_i64, dec_t, dec_f]))
                exact .mk _ σ (.refl _) leT ⟨rfl, rfl⟩
              | some j =>
                rw [hix] at GO hmf
                simp only [Option.map_some, getD] at GO hmf
                obtain ⟨dz, hdz⟩ : ∃ dz, dz = (iV j).d := ⟨_, rfl⟩
                have hd6' : dz.length = 6 := hdz ▸ V.d_len _
                have ht6' : dz.take 6 = dz := List.take_of_length_le (by omega)
                rw [← hdz] at GO
                clear hix hdz hgo
                refine' wlk1 GO.out
                ((try simp [*]); (try simp (discharger := omega) only [wrap_i64, dec_t, dec_f]))
                exact .mk _ σ (.refl _) leT ⟨rfl, rfl⟩
    · refine' wlk1 AW.out
      ((try simp [*]); (try simp (discharger := omega) only [wrap_i64, dec_t, dec_f]))
      exact .mk _ σ (.refl _) leT ⟨rfl, rfl⟩
  · refine' wlk1 AW.out
    ((try simp [*]); (try simp (discharger := omega) only [wrap_i64, dec_t, dec_f]))
    exact .mk _ σ (.refl _) leT ⟨rfl, rfl⟩
end Go.Proofs.YtmjendeigjdihaaDoor
/-
  The card of the law ValueGets: it holds for every input.
-/
namespace Go.Proofs.YtmjendeigjdihaaDoor.valueGets
open Go.ChangeShapes Go.WideShapes Go.ChangeAt Go.RowKit
set_option maxRecDepth 100000
set_option linter.unusedVariables false
set_option linter.unusedSimpArgs false

theorem laid_eq : Rows.valueGetsRow.laid = Rows.valueChecksRow.laid := rfl
theorem reads (os : Os) {H : Type} (enc : TypeId × Value → H) : ∃ places, DataW.whole enc Tryd.prog ((laidWorld os).forCall (fun _ _ => 0) ⟨#[], #[.slice none 0 0, .string ByteArray.empty], []⟩).memory Tryd.f9.params.toList Rows.valueGetsSpec.vars false #[.slice none 0 0, .string ByteArray.empty].toList 8 = some ([.nil, .lit (.string [])], [], places) :=
  ⟨[], by kernel_rfl⟩
theorem contract (H : Type) (enc : TypeId × Value → H) (W : World) (base : Nat) (args : Array Value) (ds gs : List (DataW H)) (before : List MemPlace)
    (hval0 : ∀ (j : Nat) t v, Tryd.f9.params[j]? = some t → args[j]? = some v → Value.okWide Tryd.prog W .any base t v)
    (hW : DataW.Whole enc Tryd.prog Tryd.f9.params.toList Rows.valueGetsSpec.vars false W args.toList ds gs before)
    (hreach : (DataW.weightsEach Tryd.prog (Tryd.f9.params.toList ++ (OpenSpec.ofChange Rows.valueGetsSpec).bare.plain.varTypes Tryd.prog) (ds ++ gs)).all (· ≤ reachBytes) = true)
    (hLM : laidMetH Tryd.prog Rows.valueGetsRow.laid W) (hsh : W.ShapedOpen Tryd.prog) :
    Calls Tryd.prog 9 args W fun e W' => ∃ v, e = .returned v ∧ Rows.valueGetsSpec.post enc Tryd.prog Tryd.f9 false true false false W args v W' := by
  have hval : ∀ (j : Nat) t v, Tryd.f9.params[j]? = some t → args[j]? = some v → Value.okWide Tryd.prog W .any base t v := hval0
  have hW' := hW
  have hlt := hW.lt
  obtain ⟨p, q, hA0, hV, rfl, hfz, hnd⟩ := hW
  have hA : DataW.TrodAll enc Tryd.prog W 0 (fun _ => true) true Tryd.f9.params.toList args.toList ds p := hA0
  rw [Tryd.params9] at hA hval
  obtain ⟨v0, vs0, d0, ds0, p0, q0, hargs, rfl, rfl, h0, r0⟩ := trodAll_cons hA
  obtain ⟨v1, vs1, d1, ds1, p1, q1, rfl, rfl, rfl, h1, r1⟩ := trodAll_cons r0
  obtain ⟨rfl, rfl, rfl⟩ := trodAll_nil r1
  obtain rfl : args = #[v0, v1] := by cases args; simp_all
  obtain ⟨rfl, rfl⟩ := trodVars_none hV
  obtain ⟨a0, o0, R0⟩ := argStrs (hval 0 57 v0 rfl rfl) h0 (reached_arg hreach (j := 0) rfl rfl)
  obtain ⟨a1, o1, R1⟩ := argStr (hval 1 9 v1 rfl rfl) h1 (reached_arg hreach (j := 1) rfl rfl)
  have C := valueGetsT a0 a1 o0 o1 .none W W (Gh.of W) _ (Sim.start W (baseOk_of hsh hLM)) (((RepL.nil _).cons R1).cons R0)
  clear hA0 hval0
  refine C.mono fun e W' ⟨σ', G', _, hS, h4⟩ => ?_
  obtain ⟨v, d, he, hr, hd, _⟩ | ⟨_, _, hd⟩ := h4
  case inr => exact hd.elim
  subst hd
  obtain rfl : v = .bool true := hr.v_inv
  subst he
  have hg : Below W.heap.size W W' := hS.below
  have hin0 : ∀ p ∈ p0, p.block < W.heap.size := fun p hp => hlt p (by simp [hp])
  have hin1 : ∀ p ∈ p1, p.block < W.heap.size := fun p hp => hlt p (by simp [hp])
  exact ⟨_, rfl, post_of_below (pv := []) hW' (fun _ _ _ => (trodAll_cons_mk (shut_bool Tryd.underlying4 _) trodAll_mk0))
    (fun sp hsp => (trodAll_cons_mk (WideElems.Trod_stays laidOut (by kernel_rfl) (of_decide_eq_true (by kernel_rfl)) h0 (fun p hp => below_sameAt hg (hin0 p hp)) (fun p hp => hsp p (by simp [hp]))) (trodAll_cons_mk (WideElems.Trod_stays laidOut (by kernel_rfl) (of_decide_eq_true (by kernel_rfl)) h1 (fun p hp => below_sameAt hg (hin1 p hp)) (fun p hp => hsp p (by simp [hp]))) trodAll_mk0))) (fun _ _ => rfl) rfl
    hg (ok_one (by kernel_rfl) rfl (okWide_bool_mk Tryd.underlying4 _))⟩

theorem lifted (os : Os) (started : os.Started) (H : Type) (enc : TypeId × Value → H) (F : Stop.Interp) :
    ReturnsInHanded {} Tryd.checked os 9 .any ((OpenSpec.ofChange Rows.valueGetsSpec).preRow enc Tryd.prog Tryd.f9 Rows.valueGetsRow.domain false Rows.valueGetsRow.laid) (((OpenSpec.ofChange Rows.valueGetsSpec).at F).post enc Tryd.prog Tryd.f9 false true false false) := by
  obtain ⟨places, hx⟩ := reads os enc
  refine returnsInHanded_of_row (C := Tryd.checked) (s := OpenSpec.ofChange Rows.valueGetsSpec) own started (by kernel_rfl) Tryd.func9
    (witness_row_at (enc := enc) (C := Tryd.checked) false (laidWorld os) #[.slice none 0 0, .string ByteArray.empty] rfl (by kernel_rfl) (by kernel_rfl) (by kernel_rfl)
      (OpenSpec.preRow_of_cond 8 hx (by kernel_rfl) (fun k hk => by cases hk) (by kernel_rfl) (laid_met os _))) ?_
  intro W base args ds gs before hval hW _ _ hreach hL hsh _
  exact contract H enc W base args ds gs before hval hW hreach hL hsh

theorem said : Rows.ValueGetsSaid :=
  OpenClaim.holds_of_cond 9 Tryd.f9 rfl rfl rfl rfl rfl rfl rfl ⟨rfl, rfl, rfl, rfl, rfl⟩ rfl rfl rfl rfl rfl (by kernel_rfl) Tryd.func9 (by kernel_rfl)
    (of_decide_eq_true (by kernel_rfl)) (by unfold Func.isWrapper; first | (rw [if_pos (by decide +kernel)]; kernel_rfl) | (rw [if_neg (by decide +kernel)]; exact ⟨rfl, rfl⟩))
    (fun os started H enc _ F => by rw [OpenClaim.pre_eq_preRow]; exact lifted os started H enc F)

theorem plain (f : FuncId) (fn : Func) (hf : Tryd.pinned.checked.prog.funcNamed "enfilade/enfiladelaw01.ValueGets" = some f) (hfn : Tryd.pinned.checked.prog.funcs[f]? = some fn) :
    true = Tryd.pinned.checked.prog.looks [] ∧ ∀ (j : Nat) t, fn.params[j]? = some t → Tryd.pinned.checked.prog.wantsStandIn t = false := by
  obtain rfl : f = 9 := Option.some.inj ((show Tryd.prog.funcNamed "enfilade/enfiladelaw01.ValueGets" = some 9 by kernel_rfl).symm.trans hf) |>.symm
  obtain rfl : fn = Tryd.f9 := (Option.some.inj (Tryd.func9.symm.trans hfn)).symm
  refine ⟨by kernel_rfl, fun j t ht => ?_⟩
  rw [Tryd.params9] at ht
  have h2 : t = 57 ∨ t = 9 := by simpa using Array.mem_of_getElem? ht
  rcases h2 with rfl | rfl
  · exact (show Tryd.prog.wantsStandIn 57 = false by kernel_rfl)
  · exact (show Tryd.prog.wantsStandIn 9 = false by kernel_rfl)

theorem proved : Rows.ValueGetsCardSaid :=
  Claim7.holds_tied_plain_at .later [] _ _ _ _ said (fun _ h => by cases h) (by kernel_rfl) (fun _ h => by cases h) valueGets_row_tie rfl ⟨rfl, rfl⟩ (by kernel_rfl) rfl plain (by kernel_rfl)
#print axioms proved
end Go.Proofs.YtmjendeigjdihaaDoor.valueGets
