/- Part 8 of the proof of CardValueChecks: V15 V18 V20 Lp V28 V10 V11 V12. -/
import Derived.Test.YtmjendeigjdihaaDoorVc7
import Derived.Test.YtmjendeigjdihaaDoorVc5
import Derived.Test.YtmjendeigjdihaaDoorVc6
/-
  Values (chapter 1): copied.
-/
namespace Go.Proofs.YtmjendeigjdihaaDoor
open Go.RowKit
set_option maxRecDepth 100000
set_option linter.unusedVariables false
set_option linter.unusedSimpArgs false
attribute [local irreducible] awp aops aop aput aseq ablock TriX Tri Ret Fresh dq adraw dtail dals dfin Wk

@[simp] theorem V.d_drop (v : V) : v.d.drop 6 = [] := List.drop_eq_nil_of_le (by rw [V.d_len]; omega)
@[simp] theorem map_set_self {α β : Type} (f : α → β) (l : List α) (k : Nat) (h : k < l.length) : (l.map f).set k (f l[k]) = l.map f := by
  refine List.ext_getElem (by simp) (fun i h1 h2 => ?_)
  rw [List.getElem_set]
  split
  · rename_i e; subst e; rw [List.getElem_map]
  · rfl
/-- A copy: its lists are one's own. -/
def CopyR (kd : Int) (y : Bool) (i : Int) (t : ByteArray) (l : List V) (m : List (ByteArray × V)) (σ : St) (d : D) (τ : St) : Prop :=
  ∃ dl dm τ1, d = .agg [.i kd, .b y, .i i, .s t, dl, dm] ∧ ArrO σ 38 6 (l.map V.d) dl τ1 ∧ ArrO τ1 45 7 (m.map fun x => .s x.1 :: x.2.d) dm τ
set_option maxHeartbeats 8000000 in
theorem copyOwnOf (kd : Int) (y : Bool) (i : Int) (t : ByteArray) (l : List V) (m : List (ByteArray × V)) (σ : St) (hl : l.length * 88 ≤ 140737488351232) (hm : m.length * 104 ≤ 140737488351232)
    (IL : Hid (∀ x ∈ l, ∀ σ, Tri Tryd.prog 30 [.agg x.d] σ fun d τ => d = .agg x.d ∧ τ = σ)) (IM : Hid (∀ x ∈ m, ∀ σ, Tri Tryd.prog 30 [.agg x.2.d] σ fun d τ => d = .agg x.2.d ∧ τ = σ)) :
    Tri Tryd.prog 30 [.agg (V.mk kd y i t l m).d] σ (CopyR kd y i t l m σ) := by
  rw [V.d, V.ds_map, V.dm_map]
  refine tri_fn Tryd.func30 rfl Tryd.ntmps30 Tryd.results30 (Nat.le_of_ble_eq_true rfl) ?_
  refine' wlk0
  obtain ⟨KK, hKK⟩ : ∃ KK, KK = KS := ⟨_, rfl⟩
  subst hKK
  refine' genCS
  have REST : ∀ F' σ' dl dm τ1 τ2, F' 1 = .at bo 0 → F' 2 = .at br 0 → ArrO σ1 38 6 (l.map V.d) dl τ1 → ArrO τ1 45 7 (m.map fun x => .s x.1 :: x.2.d) dm τ2 → Fresh τ2 bo → σ' = τ2.set bo (some (.box 38 [.i kd, .b y, .i i, .s t, dl, dm])) → KK F' σ' := by
    rintro F' σ' dl dm τ1 τ2 h1 h2 hdl hdm hfr2 rfl
    have hown2 := hdm.own (hdl.own hown1)
    have HBR := Lib.hid hown1
    clear hown1 hfr1
    refine hK.out _ _ ?_
    clear hK
    have HDL := Lib.hid hdl
    have HDM := Lib.hid hdm
    rcases hdl with ⟨e1, hd1, ht1⟩ | ⟨c1, cap1, f1, n1, g1, hd1, ht1⟩
    · subst hd1
      have hl0 : l = [] := by simpa using e1
      clear ht1 e1
      refine' wlk0
      refine awp_loopM [3, 4, 18, 19, 20, 21, 22, 23, 24, 25, 26, 27, 28, 29] (fun X τ => ∃ k : Nat, k ≤ 0 ∧ X 18 = .i k ∧ τ = τ2.set bo (some (.box 38 [.i kd, .b y, .i i, .s t, (.lst false 6 []), dm]))) (fun X _ => 0 - (X 18).int.toNat) ?_ ?_
      · exact .same ⟨mix_self _ _, 0, by omega, by simp [*], rfl⟩
      · rintro X τ ⟨k, hk, h18, rfl⟩ _ hL
        have hk0 : k = 0 := by simpa using hk
        subst hk0
        refine' wlk0
        clear hL
        rcases hdm with ⟨e2, hd2, ht2⟩ | ⟨c2, cap2, f2, n2, g2, hd2, ht2⟩
        · subst hd2
          have hm0 : m = [] := by simpa using e2
          clear ht2 e2
          refine' wlk0
          refine awp_loopM [5, 6, 33, 34, 35, 36, 37, 38, 39, 40, 41, 42, 43, 44, 45, 46] (fun X τ => ∃ k : Nat, k ≤ 0 ∧ X 33 = .i k ∧ τ = τ2.set bo (some (.box 38 [.i kd, .b y, .i i, .s t, (.lst false 6 []), (.lst false 7 [])]))) (fun X _ => 0 - (X 33).int.toNat) ?_ ?_
          · exact .same ⟨mix_self _ _, 0, by omega, by simp [*], rfl⟩
          · rintro X τ ⟨k, hk, h33, rfl⟩ _ hL
            have hk0 : k = 0 := by simpa using hk
            subst hk0
            refine' wlk0
            ((try simp [*]); (try simp (discharger := omega) only [wrap_i64, dec_t, dec_f]))
            obtain ⟨τa, ha, hla, hfa⟩ := HDL.out.shiftF HLE.out HBR.out (by assumption)
            obtain ⟨τb, hb, hlb, hfb⟩ := HDM.out.shiftF hla (HDL.out.own HBR.out) hfa
            exact .less τb (St.le_set (St.le_set hlb (Fresh.of_le hlb hfr2)) hfb) (.same ⟨_, _, τa, rfl, by first | exact ha | (rw [hl0] at ha; exact ha), by first | exact hb | (rw [hm0] at hb; exact hb)⟩)
        · subst hd2
          have hown3 : τ2.own c2 = some (.arr 45 7 cap2 (m.map fun x => .s x.1 :: x.2.d)) := by rw [ht2, own_same]
          clear ht2 n2 g2
          simp only [List.length_map] at HDM
          obtain ⟨hne3, hne4⟩ := ne_own hown3 hfr2
          refine' wlk0
          refine awp_loopM [5, 6, 33, 34, 35, 36, 37, 38, 39, 40, 41, 42, 43, 44, 45, 46] (fun X τ => ∃ k : Nat, k ≤ m.length ∧ X 33 = .i k ∧ τ = τ2.set bo (some (.box 38 [.i kd, .b y, .i i, .s t, (.lst false 6 []), (.arr c2 7 cap2 0 m.length)]))) (fun X _ => m.length - (X 33).int.toNat) ?_ ?_
          · exact .same ⟨mix_self _ _, 0, by omega, by simp [*], rfl⟩
          · rintro X τ ⟨k, hk, h33, rfl⟩ _ hL
            by_cases hlt : k < m.length
            · have IH := Lib.hid (IM.out m[k] (List.getElem_mem hlt))
              refine' wlk1 IH.out
              (refine awp_draw (fun KS EG hK hP => ?_); refine draw_rule rfl [(0, true), (1, false), (2, true), (3, true), (4, false), (5, false), (6, true), (7, true)] [] [8] (by kernel_rfl) ?_; refine' dqs1 IH.out)
              refine' wlk0
              refine hL.out _ _ (.less (τ2.set bo _) leT (.same ⟨mixT, ⟨k + 1, by omega, ?_, rfl⟩, ?_⟩))
              · simp [*]
              · simp [*, D.int]; omega
            · have hke : k = m.length := by omega
              subst hke
              refine' wlk0
              ((try simp [*]); (try simp (discharger := omega) only [wrap_i64, dec_t, dec_f]))
              obtain ⟨τa, ha, hla, hfa⟩ := HDL.out.shiftF HLE.out HBR.out (by assumption)
              obtain ⟨τb, hb, hlb, hfb⟩ := HDM.out.shiftF hla (HDL.out.own HBR.out) hfa
              exact .less τb (St.le_set (St.le_set hlb (Fresh.of_le hlb hfr2)) hfb) (.same ⟨_, _, τa, rfl, by first | exact ha | (rw [hl0] at ha; exact ha), by first | exact hb | (rw [hm0] at hb; exact hb)⟩)
    · subst hd1
      have hown1 := hdm.own (show τ1.own c1 = some (.arr 38 6 cap1 (l.map V.d)) by rw [ht1, own_same])
      clear n1 g1 ht1
      simp only [List.length_map] at HDL
      obtain ⟨hne1, hne2⟩ := ne_own hown1 hfr2
      refine' wlk0
      refine awp_loopM [3, 4, 18, 19, 20, 21, 22, 23, 24, 25, 26, 27, 28, 29] (fun X τ => ∃ k : Nat, k ≤ l.length ∧ X 18 = .i k ∧ τ = τ2.set bo (some (.box 38 [.i kd, .b y, .i i, .s t, (.arr c1 6 cap1 0 l.length), dm]))) (fun X _ => l.length - (X 18).int.toNat) ?_ ?_
      · exact .same ⟨mix_self _ _, 0, by omega, by simp [*], rfl⟩
      · rintro X τ ⟨k, hk, h18, rfl⟩ _ hL
        by_cases hlt : k < l.length
        · have IH := Lib.hid (IL.out l[k] (List.getElem_mem hlt))
          refine' wlk1 IH.out
          (refine awp_draw (fun KS EG hK hP => ?_); refine draw_rule rfl [(0, true), (1, false), (2, true), (3, false), (4, false), (5, true)] [] [6] (by kernel_rfl) ?_; refine' dqs1 IH.out)
          refine' wlk0
          refine hL.out _ _ (.less (τ2.set bo _) leT (.same ⟨mixT, ⟨k + 1, by omega, ?_, rfl⟩, ?_⟩))
          · simp [*]
          · simp [*, D.int]; omega
        · have hke : k = l.length := by omega
          subst hke
          refine' wlk0
          clear hL
          rcases hdm with ⟨e2, hd2, ht2⟩ | ⟨c2, cap2, f2, n2, g2, hd2, ht2⟩
          · subst hd2
            have hm0 : m = [] := by simpa using e2
            clear ht2 e2
            refine' wlk0
            refine awp_loopM [5, 6, 33, 34, 35, 36, 37, 38, 39, 40, 41, 42, 43, 44, 45, 46] (fun X τ => ∃ k : Nat, k ≤ 0 ∧ X 33 = .i k ∧ τ = τ2.set bo (some (.box 38 [.i kd, .b y, .i i, .s t, (.arr c1 6 cap1 0 l.length), (.lst false 7 [])]))) (fun X _ => 0 - (X 33).int.toNat) ?_ ?_
            · exact .same ⟨mix_self _ _, 0, by omega, by simp [*], rfl⟩
            · rintro X τ ⟨k, hk, h33, rfl⟩ _ hL
              have hk0 : k = 0 := by simpa using hk
              subst hk0
              refine' wlk0
              ((try simp [*]); (try simp (discharger := omega) only [wrap_i64, dec_t, dec_f]))
              obtain ⟨τa, ha, hla, hfa⟩ := HDL.out.shiftF HLE.out HBR.out (by assumption)
              obtain ⟨τb, hb, hlb, hfb⟩ := HDM.out.shiftF hla (HDL.out.own HBR.out) hfa
              exact .less τb (St.le_set (St.le_set hlb (Fresh.of_le hlb hfr2)) hfb) (.same ⟨_, _, τa, rfl, by first | exact ha | (rw [hl0] at ha; exact ha), by first | exact hb | (rw [hm0] at hb; exact hb)⟩)
          · subst hd2
            have hown3 : τ2.own c2 = some (.arr 45 7 cap2 (m.map fun x => .s x.1 :: x.2.d)) := by rw [ht2, own_same]
            clear ht2 n2 g2
            simp only [List.length_map] at HDM
            obtain ⟨hne3, hne4⟩ := ne_own hown3 hfr2
            refine' wlk0
            refine awp_loopM [5, 6, 33, 34, 35, 36, 37, 38, 39, 40, 41, 42, 43, 44, 45, 46] (fun X τ => ∃ k : Nat, k ≤ m.length ∧ X 33 = .i k ∧ τ = τ2.set bo (some (.box 38 [.i kd, .b y, .i i, .s t, (.arr c1 6 cap1 0 l.length), (.arr c2 7 cap2 0 m.length)]))) (fun X _ => m.length - (X 33).int.toNat) ?_ ?_
            · exact .same ⟨mix_self _ _, 0, by omega, by simp [*], rfl⟩
            · rintro X τ ⟨k, hk, h33, rfl⟩ _ hL
              by_cases hlt : k < m.length
              · have IH := Lib.hid (IM.out m[k] (List.getElem_mem hlt))
                refine' wlk1 IH.out
                (refine awp_draw (fun KS EG hK hP => ?_); refine draw_rule rfl [(0, true), (1, false), (2, true), (3, true), (4, false), (5, false), (6, true), (7, true)] [] [8] (by kernel_rfl) ?_; refine' dqs1 IH.out)
                refine' wlk0
                refine hL.out _ _ (.less (τ2.set bo _) leT (.same ⟨mixT, ⟨k + 1, by omega, ?_, rfl⟩, ?_⟩))
                · simp [*]
                · simp [*, D.int]; omega
              · have hke : k = m.length := by omega
                subst hke
                refine' wlk0
                ((try simp [*]); (try simp (discharger := omega) only [wrap_i64, dec_t, dec_f]))
                obtain ⟨τa, ha, hla, hfa⟩ := HDL.out.shiftF HLE.out HBR.out (by assumption)
                obtain ⟨τb, hb, hlb, hfb⟩ := HDM.out.shiftF hla (HDL.out.own HBR.out) hfa
                exact .less τb (St.le_set (St.le_set hlb (Fresh.of_le hlb hfr2)) hfb) (.same ⟨_, _, τa, rfl, by first | exact ha | (rw [hl0] at ha; exact ha), by first | exact hb | (rw [hm0] at hb; exact hb)⟩)
  clear hK
  have HR := Lib.hid REST
  clear REST
  have C0 := Lib.hid (fun σ => (cloneVT false [] (by simp) σ).mono (R' := fun d τ => d = .lst false 6 [] ∧ τ = σ) (by rintro d τ (⟨_, rfl, rfl⟩ | ⟨_, _, _, h, _⟩); exact ⟨rfl, rfl⟩; exact absurd rfl h))
  have C1 := Lib.hid (fun σ => (cloneMT false [] (by simp) σ).mono (R' := fun d τ => d = .lst false 7 [] ∧ τ = σ) (by rintro d τ (⟨_, rfl, rfl⟩ | ⟨_, _, _, h, _⟩); exact ⟨rfl, rfl⟩; exact absurd rfl h))
  rcases l with _ | ⟨x, l⟩ <;> rcases m with _ | ⟨z, m⟩
  · (refine awp_draw (fun KS EG hK hP => ?_); refine draw_rule rfl [(0, true), (1, false), (2, false), (3, true), (4, false), (5, false), (6, true), (8, true)] [] [7, 9] (by kernel_rfl) ?_; refine' dqs2 C0.out C1.out)
    refine' wlk0
    refine HR.out _ _ _ _ σ1 _ ?_ ?_ .nil .nil ?_ rfl <;> (first | assumption | simp [*])
  · (refine awp_draw (fun KS EG hK hP => ?_); refine draw_rule rfl [(0, true), (1, false), (2, false), (3, true), (4, false), (6, true), (8, true)] [5] [7, 9] (by kernel_rfl) ?_; repeat (first | ((first | refine dq_pu rfl ?_ | refine dq_rd rfl ?_ | (refine dq_gTp rfl rfl ?_ ?_; (focus (simp [*]; done))) | (refine dq_gTr rfl rfl ?_ ?_; (focus (simp [*]; done)))); constructor; refine And.intro (fun _ _ hO => ?_) ?_; (focus (simp [*]; (try simp (discharger := omega) only [wrap_i64, dec_t, dec_f]); (first | ((try (first | refine .inl ⟨?_, by omega, by omega⟩ | refine ⟨by omega, by omega, ?_⟩ | refine ⟨by omega, ?_⟩ | refine .inl ?_)); exact hO.out _ _ (.refl _) (St.le_refl _)) | ((first | refine Tri.call (C0.out _) ?_ | refine Tri.call (cloneMT _ _ (by simp at hm ⊢; omega)) ?_); rintro _ _ ⟨rfl, h9⟩; replace h9 := h9.symm; subst h9; exact hO.out _ _ (.refl _) (St.le_refl _)) | exact .inr ⟨(C0.out _), hO.out _ _ (.refl _) (St.le_refl _)⟩ | exact .inl ⟨(C0.out _), hO.out _ _ (.refl _) (St.le_refl _)⟩ | exact ⟨_, (C0.out _), hO.out _ _ (.refl _) (St.le_refl _)⟩ | exact .inr ⟨(cloneMT _ _ (by simp at hm ⊢; omega)), hO.out _ _ (.refl _) (St.le_refl _)⟩ | exact .inl ⟨(cloneMT _ _ (by simp at hm ⊢; omega)), hO.out _ _ (.refl _) (St.le_refl _)⟩ | exact ⟨_, (cloneMT _ _ (by simp at hm ⊢; omega)), hO.out _ _ (.refl _) (St.le_refl _)⟩))); (first | refine aput_some (by decide) ?_ | refine aput_none ?_)) | ((first | (refine dq_gF rfl rfl ?_ ?_; (focus (simp [*]; done))) | (refine dq_gU rfl rfl ?_ ?_; (focus (simp [*]; done)))); (first | refine aput_some (by decide) ?_ | refine aput_none ?_)) | refine dq_nil ?_ | refine dtail_none ?_ | refine dtail_some ?_ | refine dals_alloc rfl (by decide) (by simp; rfl) ?_ | refine dals_box rfl (by decide) (by simp [*]; rfl) ?_  | (refine dals_arrO rfl (by decide) (by first | rfl | simp) (by simp) (by intro σ'; simp [*]; exact C0.out _ σ') (by first | assumption | simp) ?_) | (refine dals_arrO rfl (by decide) (by first | rfl | simp) (by simp) (by intro σ'; simp [*]; exact cloneMT _ _ (by simp at hm ⊢; omega) σ') (by first | assumption | simp) ?_) | refine dals_nil ?_ | refine dfin_nil ?_ | (refine dfin_cons rfl ?_; simp only [fresh_set, ne_eq, and_assoc]; intro b8 c8 hf8 hc8; (try subst hc8); (repeat (obtain ⟨_, hf8⟩ := hf8))) | (refine aops_idx rfl (fun K9 hO => ?_); simp [*]; (try simp (discharger := omega) only [wrap_i64, dec_t, dec_f]); (first | ((try (first | refine .inl ⟨by omega, by omega, ?_⟩ | refine ⟨by omega, by omega, ?_⟩ | refine ⟨by omega, ?_⟩ | refine .inl ?_)); (first | (intro b; intros; (try have hneA := ne_own (b := b) hown1 (by assumption)); (try have hneB := ne_own (b := b) hown2 (by assumption)); (try have hneC := ne_own (b := b) hown3 (by assumption)); refine hO.out _ _ ?_) | refine hO.out _ _ ?_)) | ((first | refine Tri.call (C0.out _) ?_ | refine Tri.call (cloneMT _ _ (by simp at hm ⊢; omega)) ?_); (first | rintro _ _ ⟨rfl, h9⟩; replace h9 := h9.symm; subst h9 | rintro _ _ ⟨_, rfl, rfl⟩ | rintro _ _ ⟨_, _, rfl, rfl⟩ | rintro _ _ ⟨_, _, _, rfl, rfl⟩); refine hO.out _ _ ?_)); clear hO; (try clear K9); (first | refine aput_some (by decide) ?_ | refine aput_none ?_)) | refine aops_end ?_ | ((repeat ((fail_if_success (refine hK.out _ _ ?_)); clear hK; (try clear hP EG); (try clear KS))); refine hK.out _ _ ?_; clear hK; (try clear hP EG); try clear KS)))
    refine' wlk0
    rw [set_over _ _ _ _ (by assumption)]
    refine HR.out _ _ _ _ σ1 _ ?_ ?_ .nil (.mk ?_ ?_ ?_ ?_) ?_ rfl <;> (first | assumption | simp [*])
  · (refine awp_draw (fun KS EG hK hP => ?_); refine draw_rule rfl [(0, true), (1, false), (3, true), (4, false), (5, false), (6, true), (8, true)] [2] [7, 9] (by kernel_rfl) ?_; repeat (first | ((first | refine dq_pu rfl ?_ | refine dq_rd rfl ?_ | (refine dq_gTp rfl rfl ?_ ?_; (focus (simp [*]; done))) | (refine dq_gTr rfl rfl ?_ ?_; (focus (simp [*]; done)))); constructor; refine And.intro (fun _ _ hO => ?_) ?_; (focus (simp [*]; (try simp (discharger := omega) only [wrap_i64, dec_t, dec_f]); (first | ((try (first | refine .inl ⟨?_, by omega, by omega⟩ | refine ⟨by omega, by omega, ?_⟩ | refine ⟨by omega, ?_⟩ | refine .inl ?_)); exact hO.out _ _ (.refl _) (St.le_refl _)) | ((first | refine Tri.call (C1.out _) ?_ | refine Tri.call (cloneVT _ _ (by simp at hl ⊢; omega)) ?_); rintro _ _ ⟨rfl, h9⟩; replace h9 := h9.symm; subst h9; exact hO.out _ _ (.refl _) (St.le_refl _)) | exact .inr ⟨(C1.out _), hO.out _ _ (.refl _) (St.le_refl _)⟩ | exact .inl ⟨(C1.out _), hO.out _ _ (.refl _) (St.le_refl _)⟩ | exact ⟨_, (C1.out _), hO.out _ _ (.refl _) (St.le_refl _)⟩ | exact .inr ⟨(cloneVT _ _ (by simp at hl ⊢; omega)), hO.out _ _ (.refl _) (St.le_refl _)⟩ | exact .inl ⟨(cloneVT _ _ (by simp at hl ⊢; omega)), hO.out _ _ (.refl _) (St.le_refl _)⟩ | exact ⟨_, (cloneVT _ _ (by simp at hl ⊢; omega)), hO.out _ _ (.refl _) (St.le_refl _)⟩))); (first | refine aput_some (by decide) ?_ | refine aput_none ?_)) | ((first | (refine dq_gF rfl rfl ?_ ?_; (focus (simp [*]; done))) | (refine dq_gU rfl rfl ?_ ?_; (focus (simp [*]; done)))); (first | refine aput_some (by decide) ?_ | refine aput_none ?_)) | refine dq_nil ?_ | refine dtail_none ?_ | refine dtail_some ?_ | refine dals_alloc rfl (by decide) (by simp; rfl) ?_ | refine dals_box rfl (by decide) (by simp [*]; rfl) ?_  | (refine dals_arrO rfl (by decide) (by first | rfl | simp) (by simp) (by intro σ'; simp [*]; exact C1.out _ σ') (by first | assumption | simp) ?_) | (refine dals_arrO rfl (by decide) (by first | rfl | simp) (by simp) (by intro σ'; simp [*]; exact cloneVT _ _ (by simp at hl ⊢; omega) σ') (by first | assumption | simp) ?_) | refine dals_nil ?_ | refine dfin_nil ?_ | (refine dfin_cons rfl ?_; simp only [fresh_set, ne_eq, and_assoc]; intro b8 c8 hf8 hc8; (try subst hc8); (repeat (obtain ⟨_, hf8⟩ := hf8))) | (refine aops_idx rfl (fun K9 hO => ?_); simp [*]; (try simp (discharger := omega) only [wrap_i64, dec_t, dec_f]); (first | ((try (first | refine .inl ⟨by omega, by omega, ?_⟩ | refine ⟨by omega, by omega, ?_⟩ | refine ⟨by omega, ?_⟩ | refine .inl ?_)); (first | (intro b; intros; (try have hneA := ne_own (b := b) hown1 (by assumption)); (try have hneB := ne_own (b := b) hown2 (by assumption)); (try have hneC := ne_own (b := b) hown3 (by assumption)); refine hO.out _ _ ?_) | refine hO.out _ _ ?_)) | ((first | refine Tri.call (C1.out _) ?_ | refine Tri.call (cloneVT _ _ (by simp at hl ⊢; omega)) ?_); (first | rintro _ _ ⟨rfl, h9⟩; replace h9 := h9.symm; subst h9 | rintro _ _ ⟨_, rfl, rfl⟩ | rintro _ _ ⟨_, _, rfl, rfl⟩ | rintro _ _ ⟨_, _, _, rfl, rfl⟩); refine hO.out _ _ ?_)); clear hO; (try clear K9); (first | refine aput_some (by decide) ?_ | refine aput_none ?_)) | refine aops_end ?_ | ((repeat ((fail_if_success (refine hK.out _ _ ?_)); clear hK; (try clear hP EG); (try clear KS))); refine hK.out _ _ ?_; clear hK; (try clear hP EG); try clear KS)))
    refine' wlk0
    rw [set_over _ _ _ _ (by assumption)]
    refine HR.out _ _ _ _ (σ1.set _ _) _ ?_ ?_ (.mk ?_ ?_ ?_ ?_) .nil ?_ rfl <;> (first | assumption | simp [*])
  · (refine awp_draw (fun KS EG hK hP => ?_); refine draw_rule rfl [(0, true), (1, false), (3, true), (4, false), (6, true), (8, true)] [2, 5] [7, 9] (by kernel_rfl) ?_; repeat (first | ((first | refine dq_pu rfl ?_ | refine dq_rd rfl ?_ | (refine dq_gTp rfl rfl ?_ ?_; (focus (simp [*]; done))) | (refine dq_gTr rfl rfl ?_ ?_; (focus (simp [*]; done)))); constructor; refine And.intro (fun _ _ hO => ?_) ?_; (focus (simp [*]; (try simp (discharger := omega) only [wrap_i64, dec_t, dec_f]); (first | ((try (first | refine .inl ⟨?_, by omega, by omega⟩ | refine ⟨by omega, by omega, ?_⟩ | refine ⟨by omega, ?_⟩ | refine .inl ?_)); exact hO.out _ _ (.refl _) (St.le_refl _)) | ((first | refine Tri.call (cloneVT _ _ (by simp at hl ⊢; omega)) ?_ | refine Tri.call (cloneMT _ _ (by simp at hm ⊢; omega)) ?_); rintro _ _ ⟨rfl, h9⟩; replace h9 := h9.symm; subst h9; exact hO.out _ _ (.refl _) (St.le_refl _)) | exact .inr ⟨(cloneVT _ _ (by simp at hl ⊢; omega)), hO.out _ _ (.refl _) (St.le_refl _)⟩ | exact .inl ⟨(cloneVT _ _ (by simp at hl ⊢; omega)), hO.out _ _ (.refl _) (St.le_refl _)⟩ | exact ⟨_, (cloneVT _ _ (by simp at hl ⊢; omega)), hO.out _ _ (.refl _) (St.le_refl _)⟩ | exact .inr ⟨(cloneMT _ _ (by simp at hm ⊢; omega)), hO.out _ _ (.refl _) (St.le_refl _)⟩ | exact .inl ⟨(cloneMT _ _ (by simp at hm ⊢; omega)), hO.out _ _ (.refl _) (St.le_refl _)⟩ | exact ⟨_, (cloneMT _ _ (by simp at hm ⊢; omega)), hO.out _ _ (.refl _) (St.le_refl _)⟩))); (first | refine aput_some (by decide) ?_ | refine aput_none ?_)) | ((first | (refine dq_gF rfl rfl ?_ ?_; (focus (simp [*]; done))) | (refine dq_gU rfl rfl ?_ ?_; (focus (simp [*]; done)))); (first | refine aput_some (by decide) ?_ | refine aput_none ?_)) | refine dq_nil ?_ | refine dtail_none ?_ | refine dtail_some ?_ | refine dals_alloc rfl (by decide) (by simp; rfl) ?_ | refine dals_box rfl (by decide) (by simp [*]; rfl) ?_  | (refine dals_arrO rfl (by decide) (by first | rfl | simp) (by simp) (by intro σ'; simp [*]; exact cloneVT _ _ (by simp at hl ⊢; omega) σ') (by first | assumption | simp) ?_) | (refine dals_arrO rfl (by decide) (by first | rfl | simp) (by simp) (by intro σ'; simp [*]; exact cloneMT _ _ (by simp at hm ⊢; omega) σ') (by first | assumption | simp) ?_) | refine dals_nil ?_ | refine dfin_nil ?_ | (refine dfin_cons rfl ?_; simp only [fresh_set, ne_eq, and_assoc]; intro b8 c8 hf8 hc8; (try subst hc8); (repeat (obtain ⟨_, hf8⟩ := hf8))) | (refine aops_idx rfl (fun K9 hO => ?_); simp [*]; (try simp (discharger := omega) only [wrap_i64, dec_t, dec_f]); (first | ((try (first | refine .inl ⟨by omega, by omega, ?_⟩ | refine ⟨by omega, by omega, ?_⟩ | refine ⟨by omega, ?_⟩ | refine .inl ?_)); (first | (intro b; intros; (try have hneA := ne_own (b := b) hown1 (by assumption)); (try have hneB := ne_own (b := b) hown2 (by assumption)); (try have hneC := ne_own (b := b) hown3 (by assumption)); refine hO.out _ _ ?_) | refine hO.out _ _ ?_)) | ((first | refine Tri.call (cloneVT _ _ (by simp at hl ⊢; omega)) ?_ | refine Tri.call (cloneMT _ _ (by simp at hm ⊢; omega)) ?_); (first | rintro _ _ ⟨rfl, h9⟩; replace h9 := h9.symm; subst h9 | rintro _ _ ⟨_, rfl, rfl⟩ | rintro _ _ ⟨_, _, rfl, rfl⟩ | rintro _ _ ⟨_, _, _, rfl, rfl⟩); refine hO.out _ _ ?_)); clear hO; (try clear K9); (first | refine aput_some (by decide) ?_ | refine aput_none ?_)) | refine aops_end ?_ | ((repeat ((fail_if_success (refine hK.out _ _ ?_)); clear hK; (try clear hP EG); (try clear KS))); refine hK.out _ _ ?_; clear hK; (try clear hP EG); try clear KS)))
    refine' wlk0
    rw [set_over2 _ _ _ _ _ (by assumption) (by assumption)]
    refine HR.out _ _ _ _ (σ1.set _ _) _ ?_ ?_ (.mk ?_ ?_ ?_ ?_) (.mk ?_ ?_ ?_ ?_) ?_ rfl <;> (first | assumption | simp [*])
theorem copyOwnT (kd : Int) (y : Bool) (i : Int) (t : ByteArray) (l : List V) (m : List (ByteArray × V)) (σ : St) (hv : (V.mk kd y i t l m).ok) :
    Tri Tryd.prog 30 [.agg (V.mk kd y i t l m).d] σ (CopyR kd y i t l m σ) := by
  obtain ⟨v, hvv⟩ : ∃ v, v = V.mk kd y i t l m := ⟨_, rfl⟩
  rw [← hvv] at hv
  obtain ⟨N, hN⟩ : ∃ N, N = v.w := ⟨_, rfl⟩
  induction N using Nat.strongRecOn generalizing v σ kd y i t l m with
  | _ N ih =>
    subst hvv
    subst hN
    rw [V.w] at ih
    rw [V.ok] at hv
    obtain ⟨ht, hl, hm, hls, hms⟩ := hv
    have key : ∀ x : V, x.w < 1 + V.ws l + V.wm m → x.ok → ∀ σ, Tri Tryd.prog 30 [.agg x.d] σ fun d τ => d = .agg x.d ∧ τ = σ := by
      intro x hx hxo σ
      obtain ⟨kd', y', i', t', l', m'⟩ := x
      refine (ih _ hx kd' y' i' t' l' m' σ _ hxo rfl rfl).frz ?_
      rintro d τ ⟨dl, dm, τ1, rfl, h1, h2⟩
      refine h2.ret [_, _, _, _, _] [] (h1.ret [_, _, _, _] [_] (.same ⟨?_, rfl⟩))
      rw [V.d, V.ds_map, V.dm_map]
      rfl
    exact copyOwnOf kd y i t l m σ hl hm (Lib.hid fun x hx => key x (by have := V.ws_mem hx; omega) (V.oks_mem hls hx)) (Lib.hid fun x hx => key x.2 (by have := V.wm_mem hx; omega) (V.okm_mem hms hx).2)
theorem copyT (v : V) (σ : St) (hv : v.ok) : Tri Tryd.prog 30 [.agg v.d] σ fun d τ => d = .agg v.d ∧ τ = σ := by
  obtain ⟨kd, y, i, t, l, m⟩ := v
  refine (copyOwnT kd y i t l m σ hv).frz ?_
  rintro d τ ⟨dl, dm, τ1, rfl, h1, h2⟩
  refine h2.ret [_, _, _, _, _] [] (h1.ret [_, _, _, _] [_] (.same ⟨?_, rfl⟩))
  rw [V.d, V.ds_map, V.dm_map]
  rfl
end Go.Proofs.YtmjendeigjdihaaDoor
/-
  Values (chapter 1): parts, depth, size, a key's value; the document's.
-/
namespace Go.Proofs.YtmjendeigjdihaaDoor
open Go.RowKit
set_option maxRecDepth 100000
set_option linter.unusedVariables false
set_option linter.unusedSimpArgs false
attribute [local irreducible] awp aops aop aput aseq ablock TriX Tri Ret Fresh dq adraw dtail dals dfin Wk

def V.parts : V → List V
  | .mk k _ _ _ l m => if k = 4 then l else if k = 5 then m.map (·.2) else []
theorem V.parts_w {v x : V} (h : x ∈ v.parts) : x.w < v.w := by
  obtain ⟨k, y, i, t, l, m⟩ := v
  rw [V.parts] at h
  rw [V.w]
  split at h
  · have := V.ws_mem h; omega
  · split at h
    · obtain ⟨z, hz, rfl⟩ := List.mem_map.1 h
      have := V.wm_mem hz; omega
    · simp at h
theorem V.parts_ok {v x : V} (hv : v.ok) (h : x ∈ v.parts) : x.ok := by
  obtain ⟨k, y, i, t, l, m⟩ := v
  rw [V.parts] at h
  rw [V.ok] at hv
  split at h
  · exact V.oks_mem hv.2.2.2.1 h
  · split at h
    · obtain ⟨z, hz, rfl⟩ := List.mem_map.1 h
      exact (V.okm_mem hv.2.2.2.2 hz).2
    · simp at h
theorem V.parts_len {v : V} (hv : v.ok) : v.parts.length * 88 ≤ 140737488351232 := by
  obtain ⟨k, y, i, t, l, m⟩ := v
  rw [V.parts]
  rw [V.ok] at hv
  split
  · exact hv.2.1
  · split
    · rw [List.length_map]; have := hv.2.2.1; omega
    · simp
set_option maxHeartbeats 4000000 in
theorem partsRT (v : V) (σ : St) (hv : v.ok) : Tri Tryd.prog 20 [.agg v.d] σ fun d τ => d = .lst false 6 (v.parts.map V.d) ∧ τ = σ := by
  obtain ⟨k, y, i, t, l, m⟩ := v
  rw [V.ok] at hv
  obtain ⟨ht, hl, hm, hls, hms⟩ := hv
  clear hls hms
  have HRES := Lib.hid (V.parts.eq_1 k y i t l m)
  rw [V.d, V.ds_map, V.dm_map]
  refine tri_fn Tryd.func20 rfl Tryd.ntmps20 Tryd.results20 (Nat.le_of_ble_eq_true rfl) ?_
  by_cases h4 : k = 4
  · subst h4
    refine' wlk0
    ((try simp [*]); (try simp (discharger := omega) only [wrap_i64, dec_t, dec_f]))
    exact .mk _ σ (.refl _) leT ⟨by rw [HRES.out, if_pos rfl], rfl⟩
  by_cases h5 : k = 5
  · subst h5
    refine' wlk0
    refine' genS
    obtain ⟨bo, hbo⟩ : ∃ bo, bo = (0 : Nat) := ⟨_, rfl⟩
    refine awp_loopM [3, 4, 16, 17, 18, 19, 20, 21, 22, 23, 24, 25, 26, 27, 28] (fun X τ => ∃ (k : Nat) (dl : D), k ≤ m.length ∧ X 16 = .i k ∧ X 3 = dl ∧ GrowT σ1 25 6 ((m.map fun x => x.2.d).take k) dl τ) (fun X _ => m.length - (X 16).int.toNat) ?_ ?_
    · refine .same ⟨mix_self _ _, 0, _, by omega, ?_, ?_, GrowT.start _ _ _⟩ <;> simp [*]
    · rintro X τ ⟨k, dl, hk, h16, h3, hg⟩ _ hL
      by_cases hlt : k < m.length
      · rcases hg.cases_take hlt with ⟨rfl, rfl, rfl⟩ | ⟨bt, cap, g1, g4, rfl, rfl⟩
        · clear hg
          refine' wlk0
          refine hL.out _ _ (.less (τ.set b (some (.tip 25 6 _ 1))) leT (.same ⟨mixT, ⟨1, _, by omega, ?_, ?_, GrowT.take0 hlt b _ (by assumption)⟩, ?_⟩))
          · simp [*]
          · simp [*]
          · simp [*, D.int]; omega
        · clear hg
          have hmin : min k m.length = k := by omega
          obtain ⟨hn1, hn2⟩ := ne_own hown1 g1
          refine' wlk0
          refine hL.out _ _ (.less (σ1.set b (some (.tip 25 6 _ (k + 1)))) leT (.same ⟨mixT, ⟨k + 1, _, by omega, ?_, ?_, GrowT.take hlt b _ (by assumption)⟩, ?_⟩))
          · simp [*]
          · simp [*]
          · simp [*, D.int]; omega
      · have hke : k = m.length := by omega
        replace hg := hg.done hke
        rw [hke] at h16
        clear hke hk hlt
        have HL1 := Lib.hid hg.le
        have hown1' := hg.le.2 _ _ hown1
        clear hown1
        refine' wlk0
        ((try simp [*]); (try simp (discharger := omega) only [wrap_i64, dec_t, dec_f]))
        exact .mk _ σ HL1.out.1 (St.le_trans HLE.out HL1.out.2) ⟨by rw [HRES.out, if_neg (by decide), if_pos rfl, List.map_map]; rfl, rfl⟩
  refine' wlk0
  ((try simp [*]); (try simp (discharger := omega) only [wrap_i64, dec_t, dec_f]))
  exact .mk _ σ (.nil _ _) leT ⟨by rw [HRES.out, if_neg h4, if_neg h5]; rfl, rfl⟩

mutual
/-- How deep it is, as it is counted. -/
def V.dep : V → Int
  | .mk k _ _ _ l m => if k = 4 then IntKind.i64.wrap (V.depL 0 l + 1) else if k = 5 then IntKind.i64.wrap (V.depM 0 m + 1) else 0
def V.depL : Int → List V → Int
  | a, [] => a
  | a, v :: l => V.depL (max a v.dep) l
def V.depM : Int → List (ByteArray × V) → Int
  | a, [] => a
  | a, (_, v) :: l => V.depM (max a v.dep) l
/-- How many values it is, as it is counted. -/
def V.cnt : V → Int
  | .mk k _ _ _ l m => if k = 4 then V.cntL 1 l else if k = 5 then V.cntM 1 m else 1
def V.cntL : Int → List V → Int
  | a, [] => a
  | a, v :: l => V.cntL (IntKind.i64.wrap (a + v.cnt)) l
def V.cntM : Int → List (ByteArray × V) → Int
  | a, [] => a
  | a, (_, v) :: l => V.cntM (IntKind.i64.wrap (a + v.cnt)) l
end
theorem V.depM_map : ∀ (m : List (ByteArray × V)) (a : Int), V.depM a m = V.depL a (m.map (·.2))
  | [], a => rfl
  | (k, v) :: m, a => by rw [V.depM, V.depM_map m, List.map_cons, V.depL]
theorem V.cntM_map : ∀ (m : List (ByteArray × V)) (a : Int), V.cntM a m = V.cntL a (m.map (·.2))
  | [], a => rfl
  | (k, v) :: m, a => by rw [V.cntM, V.cntM_map m, List.map_cons, V.cntL]
theorem V.dep_parts (v : V) : v.dep = match v with | .mk k _ _ _ _ _ => if k = 4 ∨ k = 5 then IntKind.i64.wrap (V.depL 0 v.parts + 1) else 0 := by
  obtain ⟨k, y, i, t, l, m⟩ := v
  rw [V.dep, V.parts]
  by_cases h4 : k = 4
  · simp only [if_pos h4, if_pos (Or.inl h4 : k = 4 ∨ k = 5)]
  · by_cases h5 : k = 5
    · simp only [if_neg h4, if_pos h5, if_pos (Or.inr h5 : k = 4 ∨ k = 5), V.depM_map]
    · simp only [if_neg h4, if_neg h5, if_neg (show ¬ (k = 4 ∨ k = 5) by omega)]
theorem V.cnt_parts (v : V) : v.cnt = V.cntL 1 v.parts := by
  obtain ⟨k, y, i, t, l, m⟩ := v
  rw [V.cnt, V.parts]
  by_cases h4 : k = 4
  · simp only [if_pos h4]
  · by_cases h5 : k = 5
    · simp only [if_neg h4, if_pos h5, V.cntM_map]
    · simp only [if_neg h4, if_neg h5, V.cntL]
theorem V.depL_take : ∀ (l : List V) (n : Int) (k : Nat) (h : k < l.length), V.depL n (l.take (k + 1)) = max (V.depL n (l.take k)) l[k].dep
  | v :: l, n, 0, h => by simp [V.depL]
  | v :: l, n, k + 1, h => by
    simp only [List.take_succ_cons, V.depL, List.getElem_cons_succ]
    exact V.depL_take l _ k (by simpa using h)
theorem V.cntL_take : ∀ (l : List V) (n : Int) (k : Nat) (h : k < l.length), V.cntL n (l.take (k + 1)) = IntKind.i64.wrap (V.cntL n (l.take k) + l[k].cnt)
  | v :: l, n, 0, h => by simp [V.cntL]
  | v :: l, n, k + 1, h => by
    simp only [List.take_succ_cons, V.cntL, List.getElem_cons_succ]
    exact V.cntL_take l _ k (by simpa using h)
set_option maxHeartbeats 4000000 in
theorem depthRT (v : V) (σ : St) (hv : v.ok) : Tri Tryd.prog 21 [.agg v.d] σ fun d τ => d = .i v.dep ∧ τ = σ := by
  obtain ⟨N, hN⟩ : ∃ N, N = v.w := ⟨_, rfl⟩
  induction N using Nat.strongRecOn generalizing v σ with
  | _ N ih =>
    subst hN
    have PT := Lib.hid (fun σ => partsRT v σ hv)
    have hpl := V.parts_len hv
    have IP := Lib.hid (fun (x : V) (hx : x ∈ v.parts) (σ : St) => ih x.w (V.parts_w hx) x σ (V.parts_ok hv hx) rfl)
    have HRES := Lib.hid (V.dep_parts v)
    clear ih hv
    obtain ⟨ps, hps⟩ : ∃ ps, ps = v.parts := ⟨_, rfl⟩
    rw [← hps] at PT hpl IP HRES
    clear hps
    obtain ⟨k, y, i, t, l, m⟩ := v
    rw [V.d, V.ds_map, V.dm_map] at PT ⊢
    refine tri_fn Tryd.func21 rfl Tryd.ntmps21 Tryd.results21 (Nat.le_of_ble_eq_true rfl) ?_
    by_cases h45 : k = 4 ∨ k = 5
    · replace HRES := Lib.hid (HRES.out.trans (if_pos h45))
      have hm4 : (k = 4 ∧ ¬ k = 5) ∨ (¬ k = 4 ∧ k = 5) := by omega
      clear h45
      rcases hm4 with ⟨rfl, h5⟩ | ⟨h4, rfl⟩
      · refine' wlk1 PT.out
        refine' genS
        refine awp_loopM [3, 5, 18, 19, 20, 21, 22, 23, 24, 25, 26, 27, 28] (fun X τ => ∃ k : Nat, k ≤ ps.length ∧ X 18 = .i k ∧ X 3 = .i (V.depL 0 (ps.take k)) ∧ τ = σ1) (fun X _ => ps.length - (X 18).int.toNat) ?_ ?_
        · refine .same ⟨mix_self _ _, 0, by omega, ?_, ?_, rfl⟩ <;> simp [*, V.depL]
        · rintro X τ ⟨k, hk, h18, h3, rfl⟩ _ hL
          by_cases hlt : k < ps.length
          · have IH := Lib.hid (IP.out ps[k] (List.getElem_mem hlt))
            refine' wlk1 IH.out
            refine hL.out _ _ (.less τ leT (.same ⟨mixT, ⟨k + 1, by omega, ?_, ?_, rfl⟩, ?_⟩))
            · simp [*]
            · rw [V.depL_take _ _ _ hlt]; simp [*]
            · simp [*, D.int]; omega
          · have hke : k = ps.length := by omega
            subst hke
            rw [List.take_length] at h3
            refine' wlk0
            ((try simp [*]); (try simp (discharger := omega) only [wrap_i64, dec_t, dec_f]))
            exact .mk _ σ (.refl _) (St.le_trans HLE.out leT) ⟨by rw [HRES.out], rfl⟩
      · refine' wlk1 PT.out
        refine' genS
        refine awp_loopM [3, 5, 18, 19, 20, 21, 22, 23, 24, 25, 26, 27, 28] (fun X τ => ∃ k : Nat, k ≤ ps.length ∧ X 18 = .i k ∧ X 3 = .i (V.depL 0 (ps.take k)) ∧ τ = σ1) (fun X _ => ps.length - (X 18).int.toNat) ?_ ?_
        · refine .same ⟨mix_self _ _, 0, by omega, ?_, ?_, rfl⟩ <;> simp [*, V.depL]
        · rintro X τ ⟨k, hk, h18, h3, rfl⟩ _ hL
          by_cases hlt : k < ps.length
          · have IH := Lib.hid (IP.out ps[k] (List.getElem_mem hlt))
            refine' wlk1 IH.out
            refine hL.out _ _ (.less τ leT (.same ⟨mixT, ⟨k + 1, by omega, ?_, ?_, rfl⟩, ?_⟩))
            · simp [*]
            · rw [V.depL_take _ _ _ hlt]; simp [*]
            · simp [*, D.int]; omega
          · have hke : k = ps.length := by omega
            subst hke
            rw [List.take_length] at h3
            refine' wlk0
            ((try simp [*]); (try simp (discharger := omega) only [wrap_i64, dec_t, dec_f]))
            exact .mk _ σ (.refl _) (St.le_trans HLE.out leT) ⟨by rw [HRES.out], rfl⟩
    · have h4 : ¬ k = 4 := by omega
      have h5 : ¬ k = 5 := by omega
      have H45 := Lib.hid h45
      clear h45
      refine' wlk0
      ((try simp [*]); (try simp (discharger := omega) only [wrap_i64, dec_t, dec_f]))
      exact .mk _ σ (.refl _) leT ⟨by rw [HRES.out]; simp [h4, h5], rfl⟩
set_option maxHeartbeats 4000000 in
theorem sizeRT (v : V) (σ : St) (hv : v.ok) : Tri Tryd.prog 35 [.agg v.d] σ fun d τ => d = .i v.cnt ∧ τ = σ := by
  obtain ⟨N, hN⟩ : ∃ N, N = v.w := ⟨_, rfl⟩
  induction N using Nat.strongRecOn generalizing v σ with
  | _ N ih =>
    subst hN
    have PT := Lib.hid (fun σ => partsRT v σ hv)
    have hpl := V.parts_len hv
    have IP := Lib.hid (fun (x : V) (hx : x ∈ v.parts) (σ : St) => ih x.w (V.parts_w hx) x σ (V.parts_ok hv hx) rfl)
    have HRES := Lib.hid (V.cnt_parts v)
    clear ih hv
    obtain ⟨ps, hps⟩ : ∃ ps, ps = v.parts := ⟨_, rfl⟩
    rw [← hps] at PT hpl IP HRES
    clear hps
    obtain ⟨dv, hdv⟩ : ∃ dv, dv = v.d := ⟨_, rfl⟩
    have hd6 : dv.length = 6 := hdv ▸ V.d_len v
    have ht6 : dv.take 6 = dv := List.take_of_length_le (by omega)
    rw [← hdv] at PT ⊢
    clear hdv
    refine tri_fn Tryd.func35 rfl Tryd.ntmps35 Tryd.results35 (Nat.le_of_ble_eq_true rfl) ?_
    refine' wlk1 PT.out
    refine' genS
    refine awp_loopM [3, 5, 10, 11, 12, 13, 14, 15, 16, 17, 18, 19, 20] (fun X τ => ∃ k : Nat, k ≤ ps.length ∧ X 10 = .i k ∧ X 3 = .i (V.cntL 1 (ps.take k)) ∧ τ = σ1) (fun X _ => ps.length - (X 10).int.toNat) ?_ ?_
    · refine .same ⟨mix_self _ _, 0, by omega, ?_, ?_, rfl⟩ <;> simp [*, V.cntL]
    · rintro X τ ⟨k, hk, h18, h3, rfl⟩ _ hL
      by_cases hlt : k < ps.length
      · have IH := Lib.hid (IP.out ps[k] (List.getElem_mem hlt))
        refine' wlk1 IH.out
        refine hL.out _ _ (.less τ leT (.same ⟨mixT, ⟨k + 1, by omega, ?_, ?_, rfl⟩, ?_⟩))
        · simp [*]
        · rw [V.cntL_take _ _ _ hlt]; simp [*]
        · simp [*, D.int]; omega
      · have hke : k = ps.length := by omega
        subst hke
        rw [List.take_length] at h3
        refine' wlk0
        ((try simp [*]); (try simp (discharger := omega) only [wrap_i64, dec_t, dec_f]))
        exact .mk _ σ (.refl _) (St.le_trans HLE.out leT) ⟨by rw [HRES.out], rfl⟩
/-- A key's value. -/
def getM : List (ByteArray × V) → ByteArray → Option V
  | [], _ => none
  | (k, v) :: m, s => if k = s then some v else getM m s
def V.zero : V := .mk 0 false 0 ByteArray.empty [] []
def V.get : V → ByteArray → Option V
  | .mk k _ _ _ _ m, s => if k = 5 then getM m s else none
def getD : Option V → D
  | none => .tup [.agg V.zero.d, .b false]
  | some v => .tup [.agg v.d, .b true]
theorem getM_drop {m : List (ByteArray × V)} {k : Nat} (h : k < m.length) (s : ByteArray) : getM (m.drop k) s = if m[k].1 = s then some m[k].2 else getM (m.drop (k + 1)) s := by
  rw [List.drop_eq_getElem_cons h, getM]
theorem zero_le : D.Le (.agg [.i 0, .b false, .i 0, .s ByteArray.empty, .v (.slice none 0 0), .v (.slice none 0 0)]) (.agg V.zero.d) :=
  .aggL (.cons (.refl _) (.cons (.refl _) (.cons (.refl _) (.cons (.refl _) (.cons (.nil _ _) (.cons (.nil _ _) .nil))))))
set_option maxHeartbeats 4000000 in
theorem getRT (v : V) (s : ByteArray) (σ : St) (hv : v.ok) : Tri Tryd.prog 32 [.agg v.d, .s s] σ fun d τ => d = getD (v.get s) ∧ τ = σ := by
  obtain ⟨k, y, i, t, l, m⟩ := v
  rw [V.ok] at hv
  obtain ⟨ht, hl, hm, hls, hms⟩ := hv
  clear hls hms
  have HRES := Lib.hid (V.get.eq_1 s k y i t l m)
  rw [V.d, V.ds_map, V.dm_map]
  refine tri_fn Tryd.func32 rfl Tryd.ntmps32 Tryd.results32 (Nat.le_of_ble_eq_true rfl) ?_
  by_cases h5 : k = 5
  · subst h5
    replace HRES := Lib.hid (HRES.out.trans (if_pos rfl))
    refine' wlk0
    refine' genCS
    refine awp_loopM [5, 6, 13, 14, 15, 16, 17, 18, 19, 20, 21, 22, 23, 24, 25, 26, 27, 28, 29, 30] (fun X τ => ∃ k : Nat, k ≤ m.length ∧ X 13 = .i k ∧ getM m s = getM (m.drop k) s ∧ τ = σ1.set bo (some (.box 25 [.i 5, .b y, .i i, .s t, .lst false 6 (l.map V.d), .lst false 7 (m.map fun x => .s x.1 :: x.2.d)]))) (fun X _ => m.length - (X 13).int.toNat) ?_ ?_
    · refine .same ⟨mix_self _ _, 0, by omega, ?_, by rw [List.drop_zero], rfl⟩
      simp [*]
    · rintro X τ ⟨k, hk, h13, he, rfl⟩ _ hL
      have HE := Lib.hid he
      clear he
      by_cases hlt : k < m.length
      · have hst := Lib.hid (getM_drop hlt s)
        by_cases hq : m[k].1 = s
        · refine' wlk0
          ((try simp [*]); (try simp (discharger := omega) only [wrap_i64, dec_t, dec_f]))
          exact .mk _ σ (.refl _) leT ⟨by rw [HRES.out, HE.out, hst.out, if_pos hq]; rfl, rfl⟩
        · refine' wlk0
          refine hL.out _ _ (.less _ (St.le_refl _) (.same ⟨mixT, ⟨k + 1, by omega, ?_, ?_, rfl⟩, ?_⟩))
          · simp [*]
          · rw [HE.out, hst.out, if_neg hq]
          · simp [*, D.int]; omega
      · have hke : k = m.length := by omega
        subst hke
        refine' wlk0
        ((try simp [*]); (try simp (discharger := omega) only [wrap_i64, dec_t, dec_f]))
        exact .mk _ σ (.tupL (.cons zero_le (.cons (.refl _) .nil))) leT ⟨by rw [HRES.out, HE.out, List.drop_length]; rfl, rfl⟩
  · refine' wlk0
    ((try simp [*]); (try simp (discharger := omega) only [wrap_i64, dec_t, dec_f]))
    exact .mk _ σ (.tupL (.cons zero_le (.cons (.refl _) .nil))) leT ⟨by rw [HRES.out, if_neg h5]; rfl, rfl⟩
end Go.Proofs.YtmjendeigjdihaaDoor
/-
  Values (chapter 1): a key's value; the program's. Texts.
-/
namespace Go.Proofs.YtmjendeigjdihaaDoor
open Go.RowKit
set_option maxRecDepth 100000
set_option linter.unusedVariables false
set_option linter.unusedSimpArgs false
attribute [local irreducible] awp aops aop aput aseq ablock TriX Tri Ret Fresh dq adraw dtail dals dfin Wk

set_option maxHeartbeats 4000000 in
theorem get1T (a : ByteArray) (v : V) (bs : Nat) (s : ByteArray) (σ : St) (hown1 : σ.own bs = some (.box 9 [.s s])) :
    Tri Tryd.prog 55 [.agg (.s a :: v.d), .at bs 0] σ fun d τ => d = .b (decide (a = s)) ∧ τ = σ := by
  obtain ⟨dv, hdv⟩ : ∃ dv, dv = v.d := ⟨_, rfl⟩
  have hd6 : dv.length = 6 := hdv ▸ V.d_len v
  rw [← hdv]
  clear hdv
  refine tri_fn Tryd.func55 rfl Tryd.ntmps55 Tryd.results55 (Nat.le_of_ble_eq_true rfl) ?_
  refine' wlk0
  ((try simp [*]); (try simp (discharger := omega) only [wrap_i64, dec_t, dec_f]))
  exact .mk _ σ (.refl _) leT ⟨rfl, rfl⟩
def findM : List (ByteArray × V) → ByteArray → Nat → Int
  | [], _, _ => -1
  | (a, _) :: m, s, k => if a = s then k else findM m s (k + 1)
theorem findM_drop {m : List (ByteArray × V)} {k : Nat} (h : k < m.length) (s : ByteArray) : findM (m.drop k) s k = if m[k].1 = s then (k : Int) else findM (m.drop (k + 1)) s (k + 1) := by
  rw [List.drop_eq_getElem_cons h, findM]
set_option maxHeartbeats 4000000 in
theorem indexT (m : List (ByteArray × V)) (bs : Nat) (s : ByteArray) (σ : St) (hσ : σ.own bs = some (.box 9 [.s s])) (hm : m.length * 104 ≤ 140737488351232) :
    Tri Tryd.prog 54 [.lst false 7 (m.map fun x => .s x.1 :: x.2.d), .fn (.func 55) [] [.at bs 0]] σ fun d τ => d = .i (findM m s 0) ∧ τ = σ := by
  refine tri_fn Tryd.func54 rfl Tryd.ntmps54 Tryd.results54 (Nat.le_of_ble_eq_true rfl) ?_
  refine' wlk0
  refine awp_loopM [4, 5, 8, 9, 10, 11, 12, 13, 14, 15, 16, 17, 18] (fun X τ => ∃ k : Nat, k ≤ m.length ∧ X 8 = .i k ∧ findM m s 0 = findM (m.drop k) s k ∧ τ = σ) (fun X _ => m.length - (X 8).int.toNat) ?_ ?_
  · refine .same ⟨mix_self _ _, 0, by omega, ?_, by rw [List.drop_zero], rfl⟩
    simp [*]
  · rintro X τ ⟨k, hk, h8, he, rfl⟩ _ hL
    have HE := Lib.hid he
    clear he
    by_cases hlt : k < m.length
    · have hst := Lib.hid (findM_drop hlt s)
      have IH := Lib.hid (get1T m[k].1 m[k].2 bs s)
      by_cases hq : m[k].1 = s
      · subst hq
        repeat (first | ((first | refine aops_cons (fun K9 hO => ?_) | (refine aops_guardT rfl ?_ (fun K9 hO => ?_); (focus (simp [*]; done)))); simp [*]; (try simp (discharger := omega) only [wrap_i64, dec_t, dec_f]); (first | ((try (first | refine .inl ⟨by omega, by omega, ?_⟩ | refine ⟨by omega, by omega, ?_⟩ | refine ⟨by omega, ?_⟩ | refine .inl ?_)); (first | (intro b; intros; (try have hneA := ne_own (b := b) hown1 (by assumption)); (try have hneB := ne_own (b := b) hown2 (by assumption)); (try have hneC := ne_own (b := b) hown3 (by assumption)); refine hO.out _ _ ?_) | refine hO.out _ _ ?_)) | ((first | refine Tri.call (IH.out _ (by assumption)) ?_); (first | rintro _ _ ⟨rfl, h9⟩; replace h9 := h9.symm; subst h9 | rintro _ _ ⟨_, rfl, rfl⟩ | rintro _ _ ⟨_, _, rfl, rfl⟩ | rintro _ _ ⟨_, _, _, rfl, rfl⟩); refine hO.out _ _ ?_)); clear hO; (try clear K9); (first | refine aput_some (by decide) ?_ | refine aput_none ?_)) | refine aops_nil ?_ | refine aseq_normal ?_ | refine aseq_ret ?_ | refine aseq_exit ?_ | refine ablock_normal ?_ | refine ablock_ret ?_ | refine ablock_same ?_ | refine ablock_other (by decide) ?_ | ((repeat ((fail_if_success (refine hK.out _ _ ?_)); clear hK; (try clear hP EG); (try clear KS))); refine hK.out _ _ ?_; clear hK; (try clear hP EG); try clear KS) | refine awp_seq (fun KS hK => ?_) | refine awp_region (fun KS EG hK hP => ?_) | refine awp_block ?_ | refine awp_skip ?_ | refine awp_ret ?_ | refine awp_exit ?_ | (refine awp_condT ?_ ?_; (focus (simp [*]; done))) | (refine awp_condF ?_ ?_; (focus (simp [*]; done))) | ((first | (refine aops_guardF rfl ?_ ?_; (focus (simp [*]; done))) | (refine aops_guardU rfl ?_ ?_; (focus (simp [*]; done)))); (first | refine aput_some (by decide) ?_ | refine aput_none ?_)))
        ((try simp [*]); (try simp (discharger := omega) only [wrap_i64, dec_t, dec_f]))
        exact .mk _ τ (.refl _) leT ⟨by rw [HE.out, hst.out, if_pos rfl], rfl⟩
      · repeat (first | ((first | refine aops_cons (fun K9 hO => ?_) | (refine aops_guardT rfl ?_ (fun K9 hO => ?_); (focus (simp [*]; done)))); simp [*]; (try simp (discharger := omega) only [wrap_i64, dec_t, dec_f]); (first | ((try (first | refine .inl ⟨by omega, by omega, ?_⟩ | refine ⟨by omega, by omega, ?_⟩ | refine ⟨by omega, ?_⟩ | refine .inl ?_)); (first | (intro b; intros; (try have hneA := ne_own (b := b) hown1 (by assumption)); (try have hneB := ne_own (b := b) hown2 (by assumption)); (try have hneC := ne_own (b := b) hown3 (by assumption)); refine hO.out _ _ ?_) | refine hO.out _ _ ?_)) | ((first | refine Tri.call (IH.out _ (by assumption)) ?_); (first | rintro _ _ ⟨rfl, h9⟩; replace h9 := h9.symm; subst h9 | rintro _ _ ⟨_, rfl, rfl⟩ | rintro _ _ ⟨_, _, rfl, rfl⟩ | rintro _ _ ⟨_, _, _, rfl, rfl⟩); refine hO.out _ _ ?_)); clear hO; (try clear K9); (first | refine aput_some (by decide) ?_ | refine aput_none ?_)) | refine aops_nil ?_ | refine aseq_normal ?_ | refine aseq_ret ?_ | refine aseq_exit ?_ | refine ablock_normal ?_ | refine ablock_ret ?_ | refine ablock_same ?_ | refine ablock_other (by decide) ?_ | ((repeat ((fail_if_success (refine hK.out _ _ ?_)); clear hK; (try clear hP EG); (try clear KS))); refine hK.out _ _ ?_; clear hK; (try clear hP EG); try clear KS) | refine awp_seq (fun KS hK => ?_) | refine awp_region (fun KS EG hK hP => ?_) | refine awp_block ?_ | refine awp_skip ?_ | refine awp_ret ?_ | refine awp_exit ?_ | (refine awp_condT ?_ ?_; (focus (simp [*]; done))) | (refine awp_condF ?_ ?_; (focus (simp [*]; done))) | ((first | (refine aops_guardF rfl ?_ ?_; (focus (simp [*]; done))) | (refine aops_guardU rfl ?_ ?_; (focus (simp [*]; done)))); (first | refine aput_some (by decide) ?_ | refine aput_none ?_)))
        refine hL.out _ _ (.less τ leT (.same ⟨mixT, ⟨k + 1, by omega, ?_, ?_, rfl⟩, ?_⟩))
        · simp [*]
        · rw [HE.out, hst.out, if_neg hq]
        · simp [*, D.int]; omega
    · have hke : k = m.length := by omega
      subst hke
      refine' wlk0
      ((try simp [*]); (try simp (discharger := omega) only [wrap_i64, dec_t, dec_f]))
      exact .mk _ τ (.refl _) leT ⟨by rw [HE.out, List.drop_length]; rfl, rfl⟩
theorem findM_get : ∀ (m : List (ByteArray × V)) (s : ByteArray) (k : Nat), (findM m s k = -1 ∧ getM m s = none) ∨ ∃ j : Nat, ∃ h : j < m.length, findM m s k = ((k + j : Nat) : Int) ∧ getM m s = some m[j].2
  | [], _, _ => .inl ⟨rfl, rfl⟩
  | (a, v) :: m, s, k => by
    rw [findM, getM]
    by_cases h : a = s
    · rw [if_pos h, if_pos h]
      exact .inr ⟨0, by simp, by simp, rfl⟩
    · rw [if_neg h, if_neg h]
      rcases findM_get m s (k + 1) with ⟨h1, h2⟩ | ⟨j, hj, h1, h2⟩
      · exact .inl ⟨h1, h2⟩
      · exact .inr ⟨j + 1, by simpa using hj, by rw [h1, show k + 1 + j = k + (j + 1) by omega], by simpa using h2⟩
set_option maxHeartbeats 4000000 in
theorem getPT (v : V) (s : ByteArray) (σ : St) (hv : v.ok) : Tri Tryd.prog 31 [.agg v.d, .s s] σ fun d τ => d = getD (v.get s) ∧ τ = σ := by
  obtain ⟨k, y, i, t, l, m⟩ := v
  rw [V.ok] at hv
  obtain ⟨ht, hl, hm, hls, hms⟩ := hv
  have CT := Lib.hid (fun x (hx : x ∈ m) σ => copyT x.2 σ (V.okm_mem hms hx).2)
  clear hls hms
  have HRES := Lib.hid (V.get.eq_1 s k y i t l m)
  have IX := Lib.hid (fun bs σ hσ => indexT m bs s σ hσ hm)
  have FG := Lib.hid (findM_get m s 0)
  obtain ⟨ix, hix⟩ : ∃ ix, ix = findM m s 0 := ⟨_, rfl⟩
  rw [← hix] at IX FG
  clear hix
  rw [V.d, V.ds_map, V.dm_map]
  refine tri_fn Tryd.func31 rfl Tryd.ntmps31 Tryd.results31 (Nat.le_of_ble_eq_true rfl) ?_
  by_cases h5 : k = 5
  · subst h5
    replace HRES := Lib.hid (HRES.out.trans (if_pos rfl))
    rcases FG.out with ⟨rfl, hg⟩ | ⟨j, hj, rfl, hg⟩
    · have HG := Lib.hid hg
      clear hg
      repeat (first | ((first | refine aops_cons (fun K9 hO => ?_) | (refine aops_guardT rfl ?_ (fun K9 hO => ?_); (focus (simp [*]; done)))); simp [*]; (try simp (discharger := omega) only [wrap_i64, dec_t, dec_f]); (first | ((try (first | refine .inl ⟨by omega, by omega, ?_⟩ | refine ⟨by omega, by omega, ?_⟩ | refine ⟨by omega, ?_⟩ | refine .inl ?_)); (first | (intro b; intros; (try have hneA := ne_own (b := b) hown1 (by assumption)); (try have hneB := ne_own (b := b) hown2 (by assumption)); (try have hneC := ne_own (b := b) hown3 (by assumption)); refine hO.out _ _ ?_) | refine hO.out _ _ ?_)) | ((first | refine Tri.call (IX.out _ _ (by simp [*])) ?_); (first | rintro _ _ ⟨rfl, h9⟩; replace h9 := h9.symm; subst h9 | rintro _ _ ⟨_, rfl, rfl⟩ | rintro _ _ ⟨_, _, rfl, rfl⟩ | rintro _ _ ⟨_, _, _, rfl, rfl⟩); refine hO.out _ _ ?_)); clear hO; (try clear K9); (first | refine aput_some (by decide) ?_ | refine aput_none ?_)) | refine aops_nil ?_ | refine aseq_normal ?_ | refine aseq_ret ?_ | refine aseq_exit ?_ | refine ablock_normal ?_ | refine ablock_ret ?_ | refine ablock_same ?_ | refine ablock_other (by decide) ?_ | ((repeat ((fail_if_success (refine hK.out _ _ ?_)); clear hK; (try clear hP EG); (try clear KS))); refine hK.out _ _ ?_; clear hK; (try clear hP EG); try clear KS) | refine awp_seq (fun KS hK => ?_) | refine awp_region (fun KS EG hK hP => ?_) | refine awp_block ?_ | refine awp_skip ?_ | refine awp_ret ?_ | refine awp_exit ?_ | (refine awp_condT ?_ ?_; (focus (simp [*]; done))) | (refine awp_condF ?_ ?_; (focus (simp [*]; done))) | ((first | (refine aops_guardF rfl ?_ ?_; (focus (simp [*]; done))) | (refine aops_guardU rfl ?_ ?_; (focus (simp [*]; done)))); (first | refine aput_some (by decide) ?_ | refine aput_none ?_)))
      ((try simp [*]); (try simp (discharger := omega) only [wrap_i64, dec_t, dec_f]))
      exact .mk _ σ (.tupL (.cons zero_le (.cons (.refl _) .nil))) leT ⟨by rw [HRES.out, HG.out]; rfl, rfl⟩
    · have HG := Lib.hid hg
      clear hg
      have HC := Lib.hid (CT.out m[j] (List.getElem_mem hj))
      have hz : ¬ ((0 + j : Nat) : Int) < 0 := by omega
      rw [Nat.zero_add] at *
      repeat (first | ((first | refine aops_cons (fun K9 hO => ?_) | (refine aops_guardT rfl ?_ (fun K9 hO => ?_); (focus (simp [*]; done)))); simp [*]; (try simp (discharger := omega) only [wrap_i64, dec_t, dec_f]); (first | ((try (first | refine .inl ⟨by omega, by omega, ?_⟩ | refine ⟨by omega, by omega, ?_⟩ | refine ⟨by omega, ?_⟩ | refine .inl ?_)); (first | (intro b; intros; (try have hneA := ne_own (b := b) hown1 (by assumption)); (try have hneB := ne_own (b := b) hown2 (by assumption)); (try have hneC := ne_own (b := b) hown3 (by assumption)); refine hO.out _ _ ?_) | refine hO.out _ _ ?_)) | ((first | refine Tri.call (IX.out _ _ (by simp [*])) ?_ | refine Tri.call (HC.out _) ?_); (first | rintro _ _ ⟨rfl, h9⟩; replace h9 := h9.symm; subst h9 | rintro _ _ ⟨_, rfl, rfl⟩ | rintro _ _ ⟨_, _, rfl, rfl⟩ | rintro _ _ ⟨_, _, _, rfl, rfl⟩); refine hO.out _ _ ?_)); clear hO; (try clear K9); (first | refine aput_some (by decide) ?_ | refine aput_none ?_)) | refine aops_nil ?_ | refine aseq_normal ?_ | refine aseq_ret ?_ | refine aseq_exit ?_ | refine ablock_normal ?_ | refine ablock_ret ?_ | refine ablock_same ?_ | refine ablock_other (by decide) ?_ | ((repeat ((fail_if_success (refine hK.out _ _ ?_)); clear hK; (try clear hP EG); (try clear KS))); refine hK.out _ _ ?_; clear hK; (try clear hP EG); try clear KS) | refine awp_seq (fun KS hK => ?_) | refine awp_region (fun KS EG hK hP => ?_) | refine awp_block ?_ | refine awp_skip ?_ | refine awp_ret ?_ | refine awp_exit ?_ | (refine awp_condT ?_ ?_; (focus (simp [*]; done))) | (refine awp_condF ?_ ?_; (focus (simp [*]; done))) | ((first | (refine aops_guardF rfl ?_ ?_; (focus (simp [*]; done))) | (refine aops_guardU rfl ?_ ?_; (focus (simp [*]; done)))); (first | refine aput_some (by decide) ?_ | refine aput_none ?_)))
      ((try simp [*]); (try simp (discharger := omega) only [wrap_i64, dec_t, dec_f]))
      exact .mk _ σ (.refl _) leT ⟨by rw [HRES.out, HG.out]; rfl, rfl⟩
  · repeat (first | ((first | refine aops_cons (fun K9 hO => ?_) | (refine aops_guardT rfl ?_ (fun K9 hO => ?_); (focus (simp [*]; done)))); simp [*]; (try simp (discharger := omega) only [wrap_i64, dec_t, dec_f]); (first | ((try (first | refine .inl ⟨by omega, by omega, ?_⟩ | refine ⟨by omega, by omega, ?_⟩ | refine ⟨by omega, ?_⟩ | refine .inl ?_)); (first | (intro b; intros; (try have hneA := ne_own (b := b) hown1 (by assumption)); (try have hneB := ne_own (b := b) hown2 (by assumption)); (try have hneC := ne_own (b := b) hown3 (by assumption)); refine hO.out _ _ ?_) | refine hO.out _ _ ?_)) | ((first | refine Tri.call (IX.out _ _ (by simp [*])) ?_); (first | rintro _ _ ⟨rfl, h9⟩; replace h9 := h9.symm; subst h9 | rintro _ _ ⟨_, rfl, rfl⟩ | rintro _ _ ⟨_, _, rfl, rfl⟩ | rintro _ _ ⟨_, _, _, rfl, rfl⟩); refine hO.out _ _ ?_)); clear hO; (try clear K9); (first | refine aput_some (by decide) ?_ | refine aput_none ?_)) | refine aops_nil ?_ | refine aseq_normal ?_ | refine aseq_ret ?_ | refine aseq_exit ?_ | refine ablock_normal ?_ | refine ablock_ret ?_ | refine ablock_same ?_ | refine ablock_other (by decide) ?_ | ((repeat ((fail_if_success (refine hK.out _ _ ?_)); clear hK; (try clear hP EG); (try clear KS))); refine hK.out _ _ ?_; clear hK; (try clear hP EG); try clear KS) | refine awp_seq (fun KS hK => ?_) | refine awp_region (fun KS EG hK hP => ?_) | refine awp_block ?_ | refine awp_skip ?_ | refine awp_ret ?_ | refine awp_exit ?_ | (refine awp_condT ?_ ?_; (focus (simp [*]; done))) | (refine awp_condF ?_ ?_; (focus (simp [*]; done))) | ((first | (refine aops_guardF rfl ?_ ?_; (focus (simp [*]; done))) | (refine aops_guardU rfl ?_ ?_; (focus (simp [*]; done)))); (first | refine aput_some (by decide) ?_ | refine aput_none ?_)))
    ((try simp [*]); (try simp (discharger := omega) only [wrap_i64, dec_t, dec_f]))
    exact .mk _ σ (.tupL (.cons zero_le (.cons (.refl _) .nil))) leT ⟨by rw [HRES.out, if_neg h5]; rfl, rfl⟩
end Go.Proofs.YtmjendeigjdihaaDoor
/-
  Less is known of what a function is called with.
-/
namespace Go.Proofs.YtmjendeigjdihaaDoor
open Go.RowKit

theorem Tri.args {P : Program} {f : FuncId} {ds ds' : List D} {σ : St} {R : D → St → Prop} (h : Tri P f ds σ R) (hl : LeL ds' ds) : Tri P f ds' σ R := fun base w G vs hS hA => h base w G vs hS ⟨hA.len.trans hl.len, fun k x d hx hd => by
  have hlt : k < ds'.length := by rw [hl.len]; exact (List.getElem?_eq_some_iff.1 hd).1
  exact Rep.le (hl.at k _ d (List.getElem?_eq_getElem hlt) hd) (hA.rep k x _ hx (List.getElem?_eq_getElem hlt))⟩
end Go.Proofs.YtmjendeigjdihaaDoor
/-
  Values (chapter 1): a map of members; the program's.
-/
namespace Go.Proofs.YtmjendeigjdihaaDoor
open Go.RowKit
set_option maxRecDepth 100000
set_option linter.unusedVariables false
set_option linter.unusedSimpArgs false
attribute [local irreducible] awp aops aop aput aseq ablock TriX Tri Ret Fresh dq adraw dtail dals dfin Wk

/-- A member set in, behind those that are not behind it. -/
def insM : List Mem → Mem → List Mem
  | [], x => [x]
  | y :: out, x => if klt x y = true then x :: y :: out else y :: insM out x
def sortM (l : List Mem) : List Mem := l.foldl insM []
theorem insM_perm : ∀ (out : List Mem) (x : Mem), Sorted out → StPerm (out ++ [x]) (insM out x) ∧ Sorted (insM out x)
  | [], x, _ => ⟨.refl _, List.pairwise_singleton _ _⟩
  | y :: out, x, h => by
    rw [insM]
    obtain ⟨h1, h2⟩ := List.pairwise_cons.1 h
    by_cases hx : klt x y = true
    · rw [if_pos hx]
      refine ⟨StPerm.swap (l := y :: out) (r := [x]) fun a ha b hb => ?_, List.pairwise_cons.2 ⟨fun a ha => ?_, h⟩⟩
      · rw [List.mem_singleton.1 hb]
        rcases List.mem_cons.1 ha with rfl | ha
        · exact hx
        · exact klt_of_lt_le hx (h1 a ha)
      · rcases List.mem_cons.1 ha with rfl | ha
        · exact kle_of_lt hx
        · exact kle_of_lt (klt_of_lt_le hx (h1 a ha))
    · rw [if_neg hx]
      obtain ⟨k1, k2⟩ := insM_perm out x h2
      refine ⟨StPerm.append (.refl [y]) k1, List.pairwise_cons.2 ⟨fun a ha => ?_, k2⟩⟩
      rcases List.mem_append.1 (k1.mem.2 ha) with ha | ha
      · exact h1 a ha
      · rw [List.mem_singleton.1 ha]
        simpa [kle] using hx
theorem sortM_fold : ∀ (l out : List Mem), Sorted out → StPerm (out ++ l) (l.foldl insM out) ∧ Sorted (l.foldl insM out)
  | [], out, h => ⟨by rw [List.append_nil]; exact .refl _, h⟩
  | x :: l, out, h => by
    obtain ⟨k1, k2⟩ := insM_perm out x h
    obtain ⟨k3, k4⟩ := sortM_fold l (insM out x) k2
    refine ⟨?_, k4⟩
    have := (k1.append (StPerm.refl l)).trans k3
    simpa using this
theorem sortM_perm (l : List Mem) : StPerm l (sortM l) := (sortM_fold l [] List.Pairwise.nil).1
theorem sortM_sorted (l : List Mem) : Sorted (sortM l) := (sortM_fold l [] List.Pairwise.nil).2
theorem sortM_once {l r : List Mem} (h : StPerm l r) (hs : Sorted r) : r = sortM l := sorted_once hs (sortM_sorted l) (h.symm.trans (sortM_perm l))
theorem sortM_len (l : List Mem) : (sortM l).length = l.length := (stperm_len (sortM_perm l)).symm
/-- The first key that stands twice. -/
def dupK : List Mem → Option ByteArray
  | x :: y :: l => if x.1 = y.1 then some y.1 else dupK (y :: l)
  | _ => none
def membersD (zs : List Mem) : D := match dupK zs with
  | some k => .tup [.agg V.zero.d, (Er.fault (-1) k (.code 6)).d]
  | none => .tup [.agg (V.mk 5 false 0 ByteArray.empty [] zs).d, .v .nilIface]
def CopyM (σ : St) (l : List Mem) (d : D) (τ : St) : Prop := ∃ dm, d = .agg [.i 0, .b false, .i 0, .s ByteArray.empty, .lst false 6 [], dm] ∧ ArrO σ 45 7 (l.map mD) dm τ
theorem copyMT (l : List Mem) (σ : St) (hl : l.length * 104 ≤ 140737488351232) (hms : V.okm l) :
    Tri Tryd.prog 30 [.agg [.i 0, .b false, .i 0, .s ByteArray.empty, .v (.slice none 0 0), .lst false 7 (l.map mD)]] σ (CopyM σ l) := by
  have hv : (V.mk 0 false 0 ByteArray.empty [] l).ok := by
    rw [V.ok]
    exact ⟨Nat.zero_le _, by simp, hl, by rw [V.oks]; trivial, hms⟩
  have h := copyOwnT 0 false 0 ByteArray.empty [] l σ hv
  rw [V.d, V.ds_map, V.dm_map] at h
  refine (h.args (.cons (.aggL (.cons (.refl _) (.cons (.refl _) (.cons (.refl _) (.cons (.refl _) (.cons (.nil _ _) (.cons (.refl _) .nil))))))) .nil)).mono ?_
  rintro d τ ⟨dl, dm, τ1, rfl, h1, h2⟩
  rcases h1 with ⟨_, rfl, rfl⟩ | ⟨b, cap, _, hne, _⟩
  · exact ⟨dm, rfl, h2⟩
  · exact absurd rfl hne
set_option maxHeartbeats 8000000 in
theorem membersPT (l : List Mem) (σ : St) (hl : l.length * 104 ≤ 140737488351232) (hms : V.okm l) : Tri Tryd.prog 17 [.lst false 7 (l.map mD)] σ fun d τ => d = membersD (sortM l) ∧ τ = σ := by
  obtain ⟨res, hres⟩ : ∃ res, res = membersD (sortM l) := ⟨_, rfl⟩
  rw [← hres]
  have HRES := Lib.hid hres
  have CP := Lib.hid (fun σ => copyMT l σ hl hms)
  have HMS := Lib.hid hms
  clear hres hms
  refine tri_fn Tryd.func17 rfl Tryd.ntmps17 Tryd.results17 (Nat.le_of_ble_eq_true rfl) ?_
  by_cases hl0 : l = []
  · subst hl0
    have CP0 := Lib.hid (fun σ => (CP.out σ).mono (R' := fun d τ => d = .agg [.i 0, .b false, .i 0, .s ByteArray.empty, .lst false 6 [], .lst false 7 []] ∧ τ = σ) (by
      rintro d τ ⟨dm, rfl, ⟨_, rfl, rfl⟩ | ⟨b, cap, _, hne, _⟩⟩
      · exact ⟨rfl, rfl⟩
      · exact absurd rfl hne))
    have SN := Lib.hid sortNilT
    clear CP
    refine' wlk2 CP0.out SN.out
    refine awp_loopM [3, 5, 6, 15, 16, 17, 18, 19, 20, 21, 22, 23, 24, 25, 26, 27, 28, 29, 30, 31, 32, 33, 34, 35, 36, 37, 38] (fun X τ' => X 15 = .i 0 ∧ τ' = σ.set b (some (.box 38 [.i 0, .b false, .i 0, .s ByteArray.empty, .v (.slice none 0 0), .v (.slice none 0 0)]))) (fun X _ => 0) ?_ ?_
    · exact .same ⟨mix_self _ _, by simp [*], rfl⟩
    · rintro X τ ⟨h15, rfl⟩ _ hL
      refine' wlk0
      ((try simp [*]); (try simp (discharger := omega) only [wrap_i64, dec_t, dec_f]))
      exact .mk _ σ (.tupL (.cons (.aggL (.cons (.refl _) (.cons (.refl _) (.cons (.refl _) (.cons (.refl _) (.cons (.nil false 6) (.cons (.refl _) .nil))))))) (.cons (.refl _) .nil))) leT ⟨by rw [HRES.out]; rfl, rfl⟩
  · have hne : l.map mD ≠ [] := by simpa using hl0
    have hpos := List.length_pos_iff.2 hl0
    obtain ⟨n, hn⟩ : ∃ n, n = l.length := ⟨_, rfl⟩
    obtain ⟨cs, hcs⟩ : ∃ cs, cs = l.map mD := ⟨_, rfl⟩
    have hcl : cs.length = n := by rw [hcs, hn, List.length_map]
    have CP1 := Lib.hid (fun σ => (CP.out σ).mono (R' := fun d τ => ∃ b cap, Fresh σ b ∧ d = .agg [.i 0, .b false, .i 0, .s ByteArray.empty, .lst false 6 [], .arr b 7 cap 0 n] ∧ τ = σ.set b (some (.arr 45 7 cap cs))) (by
      rintro d τ ⟨dm, rfl, ⟨h1, _, _⟩ | ⟨b, cap, h1, _, h2, rfl, rfl⟩⟩
      · exact absurd h1 hne
      · exact ⟨b, cap, h1, by rw [hn, List.length_map], by rw [hcs]⟩))
    have ST := Lib.hid (fun b cap σ h => sortT b cap n l σ cs (Lib.hid hcs) h hn (by omega))
    have hmax : n * 104 ≤ 140737488351232 := by omega
    have HN := Lib.hid hn
    rw [← hcs] at CP1 ⊢
    clear CP hn hcs hl0 hne hl
    rw [← HN.out] at hpos
    repeat (first | ((first | refine aops_cons (fun K9 hO => ?_) | (refine aops_guardT rfl ?_ (fun K9 hO => ?_); (focus (simp [*]; done)))); simp [*]; (try simp (discharger := omega) only [wrap_i64, dec_t, dec_f]); (first | ((try (first | refine .inl ⟨by omega, by omega, ?_⟩ | refine ⟨by omega, by omega, ?_⟩ | refine ⟨by omega, ?_⟩ | refine .inl ?_)); (first | (intro b; intros; (try have hneA := ne_own (b := b) hown1 (by assumption)); (try have hneB := ne_own (b := b) hown2 (by assumption)); (try have hneC := ne_own (b := b) hown3 (by assumption)); refine hO.out _ _ ?_) | refine hO.out _ _ ?_)) | ((first | refine Tri.call (CP1.out _) ?_ | refine Tri.call (ST.out _ _ _ (by simp [*])) ?_); (first | rintro _ _ ⟨rfl, h9⟩; replace h9 := h9.symm; subst h9 | rintro _ _ ⟨_, rfl, rfl⟩ | rintro _ _ ⟨_, _, rfl, rfl⟩ | rintro _ _ ⟨_, _, _, rfl, rfl⟩); refine hO.out _ _ ?_)); clear hO; (try clear K9); (first | refine aput_some (by decide) ?_ | refine aput_none ?_)) | refine aops_nil ?_ | refine aseq_normal ?_ | refine aseq_ret ?_ | refine aseq_exit ?_ | refine ablock_normal ?_ | refine ablock_ret ?_ | refine ablock_same ?_ | refine ablock_other (by decide) ?_ | ((repeat ((fail_if_success (refine hK.out _ _ ?_)); clear hK; (try clear hP EG); (try clear KS))); refine hK.out _ _ ?_; clear hK; (try clear hP EG); try clear KS) | refine awp_seq (fun KS hK => ?_) | refine awp_region (fun KS EG hK hP => ?_) | refine awp_block ?_ | refine awp_skip ?_ | refine awp_ret ?_ | refine awp_exit ?_ | (refine awp_condT ?_ ?_; (focus (simp [*]; done))) | (refine awp_condF ?_ ?_; (focus (simp [*]; done))) | ((first | (refine aops_guardF rfl ?_ ?_; (focus (simp [*]; done))) | (refine aops_guardU rfl ?_ ?_; (focus (simp [*]; done)))); (first | refine aput_some (by decide) ?_ | refine aput_none ?_)))
    rename_i ba cap hfa cs2 zs hz
    rw [fresh_set] at hfa
    obtain ⟨⟨hab1, hab2⟩, hfa⟩ := hfa
    obtain ⟨br, hbr⟩ : ∃ br, br = b := ⟨_, rfl⟩
    subst hbr
    refine awp_gen ?_
    intro σ1 hσ1
    have hown1 := own_gen2 hσ1 (show br ≠ ba from hab2)
    have hown2 := own_gen hσ1
    have HLE := Lib.hid (show σ.le σ1 from hσ1 ▸ St.le_set (St.le_set (St.le_refl _) (by assumption)) hfa)
    clear hσ1
    have hzl : zs.length = n := by have := stperm_len hz.out.1; have := HN.out; omega
    have hzs : zs = sortM l := sortM_once hz.out.1 hz.out.2.1
    rw [← hzs] at HRES
    have CS := Lib.hid (fun k (hk : k < zs.length) => (show cs2[k]? = some (.s zs[k].1 :: zs[k].2.d) by rw [hz.out.2.2]; simp [mD, List.getElem?_eq_getElem hk]))
    have HZ := Lib.hid hzl
    have HC2 := Lib.hid (show cs2 = zs.map mD by rw [hz.out.2.2]; simp)
    clear hzs hzl hz CP1 ST HMS
    refine awp_loopM [3, 5, 6, 15, 16, 17, 18, 19, 20, 21, 22, 23, 24, 25, 26, 27, 28, 29, 30, 31, 32, 33, 34, 35, 36, 37, 38] (fun X τ => ∃ k : Nat, k ≤ n ∧ X 15 = .i k ∧ Hid (dupK zs = dupK (zs.drop (k - 1))) ∧ τ = σ1) (fun X _ => n - (X 15).int.toNat) ?_ ?_
    · exact .same ⟨mix_self _ _, 0, Nat.zero_le _, by simp [*], Lib.hid rfl, rfl⟩
    · rintro X τ ⟨k, hk, h15, hd, rfl⟩ _ hL
      by_cases hlt : k < n
      · have hltz : k < zs.length := by rw [HZ.out]; exact hlt
        have c1 := CS.out k hltz
        obtain ⟨dv, hdv⟩ : ∃ dv, dv = zs[k].2.d := ⟨_, rfl⟩
        have hd6 : dv.length = 6 := hdv ▸ V.d_len _
        have ht6 : dv.take 6 = dv := List.take_of_length_le (by omega)
        rw [← hdv] at c1
        clear hdv
        have hlt' : (k : Int) < n := by omega
        rcases k with _ | k
        · refine' wlk0
          (refine awp_draw (fun KS EG hK hP => ?_); refine draw_rule rfl [(0, true), (1, true), (2, true), (3, true), (4, true), (5, true), (6, true), (7, true), (8, false), (9, true), (10, false), (11, true), (12, true)] [] [] (by kernel_rfl) ?_; refine' dqs0)
          refine' wlk0
          refine hL.out _ _ (.less τ leT (.same ⟨mixT, ⟨1, by omega, ?_, hd, rfl⟩, ?_⟩))
          · simp [*]
          · simp [*, D.int]
            try omega
        · have hkz : k < zs.length := by omega
          have c0 := CS.out k hkz
          obtain ⟨dw, hdw⟩ : ∃ dw, dw = zs[k].2.d := ⟨_, rfl⟩
          rw [← hdw] at c0
          clear hdw
          have hst : dupK (zs.drop k) = if zs[k].1 = zs[k + 1].1 then some zs[k + 1].1 else dupK (zs.drop (k + 1)) := by
            rw [List.drop_eq_getElem_cons hkz, List.drop_eq_getElem_cons hltz, dupK]
          have HST := Lib.hid hst
          obtain ⟨a, ha⟩ : ∃ a, a = zs[k].1 := ⟨_, rfl⟩
          obtain ⟨a', ha'⟩ : ∃ a', a' = zs[k + 1].1 := ⟨_, rfl⟩
          rw [← ha, ← ha'] at HST
          rw [← ha] at c0
          rw [← ha'] at c1
          clear ha ha' hst
          have hk1 : ((k : Int) + 1) < n := by omega
          have hk0 : (k : Int) < n := by omega
          have hkg : (0 : Int) < (k : Int) + 1 := by omega
          have hw1 : IntKind.i64.wrap ((k : Int) + 1 - 1) = k := by rw [wrap_i64 _ (by omega) (by omega)]; omega
          have hw2 : IntKind.i64.wrap ((k : Int) + 1 + 1) = (k : Int) + 1 + 1 := wrap_i64 _ (by omega) (by omega)
          by_cases hq : a = a'
          · subst hq
            have HI := Lib.hid (inErT a (.code 6))
            rw [Er.d] at HI
            refine' wlk0
            (refine awp_draw (fun KS EG hK hP => ?_); refine draw_rule rfl [(0, true), (1, true), (2, true), (3, true), (4, true), (5, true), (6, true), (7, true), (8, false), (9, true), (10, false), (11, true), (12, true)] [] [] (by kernel_rfl) ?_; refine' dqs0)
            refine' wlk1 HI.out
            ((try simp [*]); (try simp (discharger := omega) only [wrap_i64, dec_t, dec_f]))
            exact .mk _ σ (.tupL (.cons zero_le (.cons (.refl _) .nil))) leT ⟨by rw [HRES.out, membersD, hd.out, show k + 1 - 1 = k by omega, HST.out, if_pos rfl], rfl⟩
          · refine' wlk0
            (refine awp_draw (fun KS EG hK hP => ?_); refine draw_rule rfl [(0, true), (1, true), (2, true), (3, true), (4, true), (5, true), (6, true), (7, true), (8, false), (9, true), (10, false), (11, true), (12, true)] [] [] (by kernel_rfl) ?_; refine' dqs0)
            refine' wlk0
            refine hL.out _ _ (.less τ leT (.same ⟨mixT, ⟨k + 1 + 1, by omega, ?_, Lib.hid (by rw [hd.out, show k + 1 - 1 = k by omega, HST.out, if_neg hq]; rfl), rfl⟩, ?_⟩))
            · simp [*]
            · simp [*, D.int]
              try omega
      · have hke : k = n := by omega
        have hdn : dupK zs = none := by
          rw [hd.out, hke]
          have : (zs.drop (n - 1)).length = 1 := by rw [List.length_drop, HZ.out]; omega
          obtain ⟨z, hz⟩ := List.length_eq_one_iff.1 this
          rw [hz]
          rfl
        have HDN := Lib.hid hdn
        rw [hke] at h15
        clear hke hlt hk hdn hd CS
        refine' wlk0
        ((try simp [*]); (try simp (discharger := omega) only [wrap_i64, dec_t, dec_f]))
        have hcl2 : cs2.length = n := by rw [HC2.out, List.length_map, HZ.out]
        have hfz : Fz ba (.arr 45 7 cap cs2) (.arr ba 7 cap 0 n) (.lst false 7 cs2) := by
          have := arr_fz ba 45 7 cap cs2
          rwa [hcl2] at this
        refine Ret.freeze ba (x := .arr 45 7 cap cs2) (by rw [own_ne _ _ hab1]; exact hown2) trivial _ ((hfz.aggAt [_, _, _, _, _] []).tupAt [] [_]) ?_
        refine .mk _ σ (.tupL (.cons (.aggL (.cons (.refl _) (.cons (.refl _) (.cons (.refl _) (.cons (.refl _) (.cons (.nil false 6) (.cons (.refl _) .nil))))))) (.cons (.refl _) .nil))) leT ⟨?_, rfl⟩
        rw [HRES.out, membersD, HDN.out, HC2.out]
        simp only [V.d, V.ds_map, V.dm_map]
        rfl
end Go.Proofs.YtmjendeigjdihaaDoor
/-
  What is wrong with a value (chapter 1): the program's.
-/
namespace Go.Proofs.YtmjendeigjdihaaDoor
open Go.RowKit
set_option maxRecDepth 100000
set_option linter.unusedVariables false
set_option linter.unusedSimpArgs false
attribute [local irreducible] awp aops aop aput aseq ablock TriX Tri Ret Fresh dq adraw dtail dals dfin Wk

set_option maxHeartbeats 8000000 in
theorem valCheckOf (kd : Int) (y : Bool) (i : Int) (t : ByteArray) (l : List V) (m : List (ByteArray × V)) (deep : Nat) (hd : deep ≤ 20) (σ : St) (ht : t.size ≤ 140737488351232)
    (HP : Hid (deep < 20 → ∀ σ, Tri Tryd.prog 64 [.agg (V.mk kd y i t l m).d, .i ((deep : Int) + 1)] σ fun d τ => d = erD (if kd = 4 then V.chkPL l (deep + 1) 0 else V.chkPM m (deep + 1) none) ∧ τ = σ)) :
    Tri Tryd.prog 39 [.agg (V.mk kd y i t l m).d, .i deep] σ fun d τ => d = erD ((V.mk kd y i t l m).chkP deep) ∧ τ = σ := by
  have HRES := Lib.hid (V.chkP.eq_1 deep kd y i t l m)
  have U := Lib.hid (validT t (by omega))
  rw [V.d] at HP ⊢
  refine tri_fn Tryd.func39 rfl Tryd.ntmps39 Tryd.results39 (Nat.le_of_ble_eq_true rfl) ?_
  by_cases h0 : kd = 0
  · subst h0
    refine' wlk0
    ((try simp [*]); (try simp (discharger := omega) only [wrap_i64, dec_t, dec_f]))
    exact .mk _ σ (.refl _) leT ⟨(by rw [HRES.out, if_pos (by decide)]; try rfl), rfl⟩
  by_cases h1 : kd = 1
  · subst h1
    refine' wlk0
    ((try simp [*]); (try simp (discharger := omega) only [wrap_i64, dec_t, dec_f]))
    exact .mk _ σ (.refl _) leT ⟨(by rw [HRES.out, if_pos (by decide)]; try rfl), rfl⟩
  have H01 := Lib.hid (show ¬ (kd = 0 ∨ kd = 1) by omega)
  by_cases h2 : kd = 2
  · subst h2
    by_cases a1 : 9007199254740991 < i
    · refine' wlk0
      ((try simp [*]); (try simp (discharger := omega) only [wrap_i64, dec_t, dec_f]))
      exact .mk _ σ (.refl _) leT ⟨(by rw [HRES.out, if_neg H01.out, if_pos rfl, if_pos (.inl a1)]; try rfl), rfl⟩
    by_cases a2 : i < -9007199254740991
    · refine' wlk0
      ((try simp [*]); (try simp (discharger := omega) only [wrap_i64, dec_t, dec_f]))
      exact .mk _ σ (.refl _) leT ⟨(by rw [HRES.out, if_neg H01.out, if_pos rfl, if_pos (.inr a2)]; try rfl), rfl⟩
    refine' wlk0
    ((try simp [*]); (try simp (discharger := omega) only [wrap_i64, dec_t, dec_f]))
    exact .mk _ σ (.refl _) leT ⟨(by rw [HRES.out, if_neg H01.out, if_pos rfl, if_neg (by omega)]; try rfl), rfl⟩
  by_cases h3 : kd = 3
  · subst h3
    have h32 : ¬ (3 : Int) = 2 := by decide
    by_cases a1 : utf8B t = true
    · refine' wlk1 U.out
      ((try simp [*]); (try simp (discharger := omega) only [wrap_i64, dec_t, dec_f]))
      exact .mk _ σ (.refl _) leT ⟨(by rw [HRES.out, if_neg H01.out, if_neg h32, if_pos rfl, if_pos a1]; try rfl), rfl⟩
    · have a2 : utf8B t = false := by simpa using a1
      refine' wlk1 U.out
      ((try simp [*]); (try simp (discharger := omega) only [wrap_i64, dec_t, dec_f]))
      exact .mk _ σ (.refl _) leT ⟨(by rw [HRES.out, if_neg H01.out, if_neg h32, if_pos rfl, if_neg a1]; try rfl), rfl⟩
  by_cases h4 : kd = 4
  · subst h4
    by_cases hd20 : deep = 20
    · subst hd20
      refine' wlk0
      ((try simp [*]); (try simp (discharger := omega) only [wrap_i64, dec_t, dec_f]))
      exact .mk _ σ (.refl _) leT ⟨(by rw [HRES.out, if_neg H01.out, if_neg h2, if_neg h3, if_pos rfl, if_pos rfl]; try rfl), rfl⟩
    have hd20' : ¬ (deep : Int) = 20 := by omega
    have HP2 := Lib.hid (HP.out (by omega))
    clear HP
    replace HRES := Lib.hid (show (V.mk 4 y i t l m).chkP deep = V.chkPL l (deep + 1) 0 by rw [HRES.out, if_neg H01.out, if_neg h2, if_neg h3, if_pos rfl, if_neg hd20])
    clear h0 h1 h2 h3 hd20
    refine' wlk1 HP2.out
    ((try simp [*]); (try simp (discharger := omega) only [wrap_i64, dec_t, dec_f]))
    exact .mk _ σ (.refl _) leT ⟨(by rw [HRES.out]; try rfl), rfl⟩
  by_cases h5 : kd = 5
  · subst h5
    by_cases hd20 : deep = 20
    · subst hd20
      refine' wlk0
      ((try simp [*]); (try simp (discharger := omega) only [wrap_i64, dec_t, dec_f]))
      exact .mk _ σ (.refl _) leT ⟨(by rw [HRES.out, if_neg H01.out, if_neg h2, if_neg h3, if_neg h4, if_pos rfl, if_pos rfl]; try rfl), rfl⟩
    have hd20' : ¬ (deep : Int) = 20 := by omega
    have HP2 := Lib.hid (HP.out (by omega))
    clear HP
    replace HRES := Lib.hid (show (V.mk 5 y i t l m).chkP deep = V.chkPM m (deep + 1) none by rw [HRES.out, if_neg H01.out, if_neg h2, if_neg h3, if_neg h4, if_pos rfl, if_neg hd20])
    clear h0 h1 h2 h3 h4 hd20
    refine' wlk1 HP2.out
    ((try simp [*]); (try simp (discharger := omega) only [wrap_i64, dec_t, dec_f]))
    exact .mk _ σ (.refl _) leT ⟨(by rw [HRES.out]; try rfl), rfl⟩
  refine' wlk0
  ((try simp [*]); (try simp (discharger := omega) only [wrap_i64, dec_t, dec_f]))
  exact .mk _ σ (.refl _) leT ⟨(by rw [HRES.out, if_neg H01.out, if_neg h2, if_neg h3, if_neg h4, if_neg h5]; try rfl), rfl⟩
end Go.Proofs.YtmjendeigjdihaaDoor
/-
  What is wrong with a value (chapter 1): the program's; members, parts.
-/
namespace Go.Proofs.YtmjendeigjdihaaDoor
open Go.RowKit
set_option maxRecDepth 100000
set_option linter.unusedVariables false
set_option linter.unusedSimpArgs false
attribute [local irreducible] awp aops aop aput aseq ablock TriX Tri Ret Fresh dq adraw dtail dals dfin Wk

set_option maxHeartbeats 8000000 in
theorem memCheckT (m : List (ByteArray × V)) (k : Nat) (hk : k < m.length) (fl : Bool) (deep : Nat) (r : Option Er) (σ : St) (hm : V.okm m) (hml : m.length * 104 ≤ 140737488351232)
    (IH : Hid (∀ σ, Tri Tryd.prog 39 [.agg m[k].2.d, .i deep] σ fun d τ => d = erD r ∧ τ = σ)) :
    Tri Tryd.prog 71 [.agg (.s m[k].1 :: m[k].2.d), .lst fl 7 ((m.map fun x => .s x.1 :: x.2.d).take k), .i deep] σ fun d τ => d = erD (memP (prevK m k) m[k].1 r) ∧ τ = σ := by
  have hkey := (V.okm_mem hm (List.getElem_mem hk)).1
  have U := Lib.hid (validT m[k].1 (by omega))
  clear hm
  refine tri_fn Tryd.func71 rfl Tryd.ntmps71 Tryd.results71 (Nat.le_of_ble_eq_true rfl) ?_
  by_cases hu : utf8B m[k].1 = false
  · refine' wlk1 U.out
    ((try simp [*]); (try simp (discharger := omega) only [wrap_i64, dec_t, dec_f]))
    exact .mk _ σ (.refl _) leT ⟨(by unfold memP; rw [if_pos hu]; try rfl), rfl⟩
  · have hu' : utf8B m[k].1 = true := by simpa using hu
    rcases k with _ | k
    · refine' wlk2 U.out IH.out
      ((try simp [*]); (try simp (discharger := omega) only [wrap_i64, dec_t, dec_f]))
      exact .mk _ σ (.refl _) leT ⟨(by unfold memP; rw [if_neg hu]; try rfl), rfl⟩
    · have hkk : k < m.length := by omega
      have hmin : min (k + 1) m.length = k + 1 := by omega
      have HM := Lib.hid (show memP (prevK m (k + 1)) m[k + 1].1 r = if cmpB m[k].1 m[k + 1].1 = 0 then some (.code 6) else if cmpB m[k].1 m[k + 1].1 = 1 then some (.code 1) else r by rw [prevK_succ hkk]; exact if_neg hu)
      have CC := Lib.hid (compareT m[k].1 m[k + 1].1)
      obtain ⟨c, hc⟩ : ∃ c, cmpB m[k].1 m[k + 1].1 = c := ⟨_, rfl⟩
      rw [hc] at HM CC
      clear hc
      by_cases c0 : c = 0
      · refine' wlk2 U.out IH.out
        (refine awp_draw (fun KS EG hK hP => ?_); refine draw_rule rfl [(0, true), (1, true), (2, true), (3, true), (4, true), (5, false), (6, true), (7, false), (8, false)] [] [] (by kernel_rfl) ?_; refine' dqs1 CC.out)
        refine' wlk2 U.out IH.out
        ((try simp [*]); (try simp (discharger := omega) only [wrap_i64, dec_t, dec_f]))
        exact .mk _ σ (.refl _) leT ⟨(by rw [HM.out, if_pos c0]; try rfl), rfl⟩
      by_cases c1 : c = 1
      · refine' wlk2 U.out IH.out
        (refine awp_draw (fun KS EG hK hP => ?_); refine draw_rule rfl [(0, true), (1, true), (2, true), (3, true), (4, true), (5, false), (6, true), (7, false), (8, false)] [] [] (by kernel_rfl) ?_; refine' dqs1 CC.out)
        refine' wlk2 U.out IH.out
        ((try simp [*]); (try simp (discharger := omega) only [wrap_i64, dec_t, dec_f]))
        exact .mk _ σ (.refl _) leT ⟨(by rw [HM.out, if_neg c0, if_pos c1]; try rfl), rfl⟩
      · refine' wlk2 U.out IH.out
        (refine awp_draw (fun KS EG hK hP => ?_); refine draw_rule rfl [(0, true), (1, true), (2, true), (3, true), (4, true), (5, false), (6, true), (7, false), (8, false)] [] [] (by kernel_rfl) ?_; refine' dqs1 CC.out)
        refine' wlk2 U.out IH.out
        ((try simp [*]); (try simp (discharger := omega) only [wrap_i64, dec_t, dec_f]))
        exact .mk _ σ (.refl _) leT ⟨(by rw [HM.out, if_neg c0, if_neg c1]; try rfl), rfl⟩
end Go.Proofs.YtmjendeigjdihaaDoor
/-
  What is wrong with a value (chapter 1): the program's; parts.
-/
namespace Go.Proofs.YtmjendeigjdihaaDoor
open Go.RowKit
set_option maxRecDepth 100000
set_option linter.unusedVariables false
set_option linter.unusedSimpArgs false
attribute [local irreducible] awp aops aop aput aseq ablock TriX Tri Ret Fresh dq adraw dtail dals dfin Wk

def chkStep (r next : Option Er) (f : ByteArray) : Option Er := match r with | none => next | some e => some (.fault (-1) f e)
theorem V.chkPL_drop {l : List V} {k : Nat} (h : k < l.length) (deep : Nat) : V.chkPL (l.drop k) deep k = chkStep (l[k].chkP deep) (V.chkPL (l.drop (k + 1)) deep (k + 1)) (digB k) := by
  rw [List.drop_eq_getElem_cons h, V.chkPL]
  rfl
theorem V.chkPM_drop {m : List (ByteArray × V)} {k : Nat} (h : k < m.length) (deep : Nat) (prev : Option ByteArray) : V.chkPM (m.drop k) deep prev = chkStep (memP prev m[k].1 (m[k].2.chkP deep)) (V.chkPM (m.drop (k + 1)) deep (some m[k].1)) m[k].1 := by
  rw [List.drop_eq_getElem_cons h, V.chkPM]
  rfl
theorem Er.d_iface (e : Er) : ∃ t x, e.d = .iface t x := by cases e <;> exact ⟨_, _, rfl⟩
set_option maxHeartbeats 8000000 in
theorem partsT (kd : Int) (y : Bool) (i : Int) (t : ByteArray) (l : List V) (m : List (ByteArray × V)) (deep : Nat) (hd : deep ≤ 20) (σ : St) (hl : l.length * 88 ≤ 140737488351232) (hm : m.length * 104 ≤ 140737488351232) (hms : Hid (V.okm m))
    (HL : Hid (∀ x ∈ l, ∀ σ, Tri Tryd.prog 39 [.agg x.d, .i deep] σ fun d τ => d = erD (x.chkP deep) ∧ τ = σ))
    (HM : Hid (∀ x ∈ m, ∀ σ, Tri Tryd.prog 39 [.agg x.2.d, .i deep] σ fun d τ => d = erD (x.2.chkP deep) ∧ τ = σ)) :
    Tri Tryd.prog 64 [.agg (V.mk kd y i t l m).d, .i deep] σ fun d τ => d = erD (if kd = 4 then V.chkPL l deep 0 else V.chkPM m deep none) ∧ τ = σ := by
  rw [V.d, V.ds_map, V.dm_map]
  refine tri_fn Tryd.func64 rfl Tryd.ntmps64 Tryd.results64 (Nat.le_of_ble_eq_true rfl) ?_
  by_cases h4 : kd = 4
  · subst h4
    refine' wlk0
    refine' genS
    refine awp_loopM [4, 5, 6, 7, 17, 18, 19, 20, 21, 22, 23, 24, 25, 26, 27, 28, 29, 30, 31] (fun X τ => ∃ k : Nat, k ≤ l.length ∧ X 17 = .i k ∧ V.chkPL l deep 0 = V.chkPL (l.drop k) deep k ∧ τ = σ1) (fun X _ => l.length - (X 17).int.toNat) ?_ ?_
    · refine .same ⟨mix_self _ _, 0, by omega, ?_, by rw [List.drop_zero], rfl⟩
      simp [*]
    · rintro X τ ⟨k, hk, h17, he, rfl⟩ _ hL
      have HE := Lib.hid he
      clear he
      by_cases hlt : k < l.length
      · have IH := Lib.hid (HL.out l[k] (List.getElem_mem hlt))
        have hst := Lib.hid (V.chkPL_drop hlt deep)
        have hit := Lib.hid (itoaT k (by omega))
        cases hr : l[k].chkP deep with
        | none =>
          rw [hr] at IH hst
          clear hr
          simp only [erD, chkStep] at IH hst
          refine' wlk1 IH.out
          refine hL.out _ _ (.less τ leT (.same ⟨mixT, ⟨k + 1, by omega, ?_, ?_, rfl⟩, ?_⟩))
          · simp [*]
          · rw [HE.out, hst.out]
          · simp [*, D.int]; omega
        | some e =>
          rw [hr] at IH hst
          clear hr
          obtain ⟨ty, x, hx⟩ := e.d_iface
          have HI := Lib.hid (inErT (digB k) e)
          simp only [erD, chkStep] at IH hst
          rw [hx] at IH HI
          have HX := Lib.hid hx
          clear hx
          refine' wlk3 IH.out hit.out HI.out
          ((try simp [*]); (try simp (discharger := omega) only [wrap_i64, dec_t, dec_f]))
          exact .mk _ σ (.refl _) leT ⟨(by (try rw [if_pos rfl]); rw [HE.out, hst.out]; try rfl), rfl⟩
      · have hke : k = l.length := by omega
        subst hke
        refine' wlk0
        ((try simp [*]); (try simp (discharger := omega) only [wrap_i64, dec_t, dec_f]))
        exact .mk _ σ (.refl _) leT ⟨(by (try rw [if_pos rfl]); rw [HE.out, List.drop_length, V.chkPL]; try rfl), rfl⟩
  · refine' wlk0
    refine' genS
    refine awp_loopM [4, 8, 9, 10, 35, 36, 37, 38, 39, 40, 41, 42, 43, 44, 45, 46, 47, 48, 49, 50, 51, 52, 53] (fun X τ => ∃ k : Nat, k ≤ m.length ∧ X 35 = .i k ∧ V.chkPM m deep none = V.chkPM (m.drop k) deep (prevK m k) ∧ τ = σ1) (fun X _ => m.length - (X 35).int.toNat) ?_ ?_
    · refine .same ⟨mix_self _ _, 0, by omega, ?_, by rw [List.drop_zero]; rfl, rfl⟩
      simp [*]
    · rintro X τ ⟨k, hk, h35, he, rfl⟩ _ hL
      have HE := Lib.hid he
      clear he
      by_cases hlt : k < m.length
      · have hst := Lib.hid (V.chkPM_drop hlt deep (prevK m k))
        have MC := Lib.hid (fun fl σ => memCheckT m k hlt fl deep _ σ hms.out hm (Lib.hid (HM.out m[k] (List.getElem_mem hlt))))
        cases hr : memP (prevK m k) m[k].1 (m[k].2.chkP deep) with
        | none =>
          rw [hr] at MC hst
          clear hr
          simp only [erD, chkStep] at MC hst
          refine' wlk0
          (refine awp_draw (fun KS EG hK hP => ?_); refine draw_rule rfl [(0, false), (1, true), (2, false), (3, true), (4, true), (5, true), (6, false), (7, true)] [] [] (by kernel_rfl) ?_; repeat (first | ((first | refine dq_pu rfl ?_ | refine dq_rd rfl ?_ | (refine dq_gTp rfl rfl ?_ ?_; (focus (simp [*]; done))) | (refine dq_gTr rfl rfl ?_ ?_; (focus (simp [*]; done)))); constructor; refine And.intro (fun _ _ hO => ?_) ?_; (focus (simp [*]; (try simp (discharger := omega) only [wrap_i64, dec_t, dec_f]); (first | ((try (first | refine .inl ⟨?_, by omega, by omega⟩ | refine ⟨by omega, by omega, ?_⟩ | refine ⟨by omega, ?_⟩ | refine .inl ?_)); exact hO.out _ _ (.refl _) (St.le_refl _)) | ((first | refine Tri.call (MC.out _ _) ?_); rintro _ _ ⟨rfl, h9⟩; replace h9 := h9.symm; subst h9; exact hO.out _ _ (.refl _) (St.le_refl _)) | exact .inr ⟨(MC.out _ _), hO.out _ _ (.refl _) (St.le_refl _)⟩ | exact .inl ⟨(MC.out _ _), hO.out _ _ (.refl _) (St.le_refl _)⟩ | exact ⟨_, (MC.out _ _), hO.out _ _ (.refl _) (St.le_refl _)⟩))); (first | refine aput_some (by decide) ?_ | refine aput_none ?_)) | ((first | (refine dq_gF rfl rfl ?_ ?_; (focus (simp [*]; done))) | (refine dq_gU rfl rfl ?_ ?_; (focus (simp [*]; done)))); (first | refine aput_some (by decide) ?_ | refine aput_none ?_)) | refine dq_nil ?_ | refine dtail_none ?_ | refine dtail_some ?_ | refine dals_alloc rfl (by decide) (by simp; rfl) ?_ | refine dals_box rfl (by decide) (by simp [*]; rfl) ?_  | (refine dals_arrO rfl (by decide) (by first | rfl | simp) (by simp) (by intro σ'; simp [*]; exact MC.out _ _ σ') (by first | assumption | simp) ?_) | refine dals_nil ?_ | refine dfin_nil ?_ | (refine dfin_cons rfl ?_; simp only [fresh_set, ne_eq, and_assoc]; intro b8 c8 hf8 hc8; (try subst hc8); (repeat (obtain ⟨_, hf8⟩ := hf8))) | (refine aops_idx rfl (fun K9 hO => ?_); simp [*]; (try simp (discharger := omega) only [wrap_i64, dec_t, dec_f]); (first | ((try (first | refine .inl ⟨by omega, by omega, ?_⟩ | refine ⟨by omega, by omega, ?_⟩ | refine ⟨by omega, ?_⟩ | refine .inl ?_)); (first | (intro b; intros; refine hO.out _ _ ?_) | refine hO.out _ _ ?_)) | ((first | refine Tri.call (MC.out _ _) ?_); (first | rintro _ _ ⟨rfl, h9⟩; replace h9 := h9.symm; subst h9 | rintro _ _ ⟨_, rfl, rfl⟩ | rintro _ _ ⟨_, _, rfl, rfl⟩ | rintro _ _ ⟨_, _, _, rfl, rfl⟩); refine hO.out _ _ ?_)); clear hO; (try clear K9); (first | refine aput_some (by decide) ?_ | refine aput_none ?_)) | refine aops_end ?_ | ((repeat ((fail_if_success (refine hK.out _ _ ?_)); clear hK; (try clear hP EG); (try clear KS))); refine hK.out _ _ ?_; clear hK; (try clear hP EG); try clear KS)))
          refine' wlk0
          refine hL.out _ _ (.less τ leT (.same ⟨mixT, ⟨k + 1, by omega, ?_, ?_, rfl⟩, ?_⟩))
          · simp [*]
          · rw [HE.out, hst.out, prevK_succ hlt]
          · simp [*, D.int]; omega
        | some e =>
          rw [hr] at MC hst
          clear hr
          obtain ⟨ty, x, hx⟩ := e.d_iface
          have HI := Lib.hid (inErT m[k].1 e)
          simp only [erD, chkStep] at MC hst
          rw [hx] at MC HI
          have HX := Lib.hid hx
          clear hx
          refine' wlk0
          (refine awp_draw (fun KS EG hK hP => ?_); refine draw_rule rfl [(0, false), (1, true), (2, false), (3, true), (4, true), (5, true), (6, false), (7, true)] [] [] (by kernel_rfl) ?_; repeat (first | ((first | refine dq_pu rfl ?_ | refine dq_rd rfl ?_ | (refine dq_gTp rfl rfl ?_ ?_; (focus (simp [*]; done))) | (refine dq_gTr rfl rfl ?_ ?_; (focus (simp [*]; done)))); constructor; refine And.intro (fun _ _ hO => ?_) ?_; (focus (simp [*]; (try simp (discharger := omega) only [wrap_i64, dec_t, dec_f]); (first | ((try (first | refine .inl ⟨?_, by omega, by omega⟩ | refine ⟨by omega, by omega, ?_⟩ | refine ⟨by omega, ?_⟩ | refine .inl ?_)); exact hO.out _ _ (.refl _) (St.le_refl _)) | ((first | refine Tri.call (MC.out _ _) ?_); rintro _ _ ⟨rfl, h9⟩; replace h9 := h9.symm; subst h9; exact hO.out _ _ (.refl _) (St.le_refl _)) | exact .inr ⟨(MC.out _ _), hO.out _ _ (.refl _) (St.le_refl _)⟩ | exact .inl ⟨(MC.out _ _), hO.out _ _ (.refl _) (St.le_refl _)⟩ | exact ⟨_, (MC.out _ _), hO.out _ _ (.refl _) (St.le_refl _)⟩))); (first | refine aput_some (by decide) ?_ | refine aput_none ?_)) | ((first | (refine dq_gF rfl rfl ?_ ?_; (focus (simp [*]; done))) | (refine dq_gU rfl rfl ?_ ?_; (focus (simp [*]; done)))); (first | refine aput_some (by decide) ?_ | refine aput_none ?_)) | refine dq_nil ?_ | refine dtail_none ?_ | refine dtail_some ?_ | refine dals_alloc rfl (by decide) (by simp; rfl) ?_ | refine dals_box rfl (by decide) (by simp [*]; rfl) ?_  | (refine dals_arrO rfl (by decide) (by first | rfl | simp) (by simp) (by intro σ'; simp [*]; exact MC.out _ _ σ') (by first | assumption | simp) ?_) | refine dals_nil ?_ | refine dfin_nil ?_ | (refine dfin_cons rfl ?_; simp only [fresh_set, ne_eq, and_assoc]; intro b8 c8 hf8 hc8; (try subst hc8); (repeat (obtain ⟨_, hf8⟩ := hf8))) | (refine aops_idx rfl (fun K9 hO => ?_); simp [*]; (try simp (discharger := omega) only [wrap_i64, dec_t, dec_f]); (first | ((try (first | refine .inl ⟨by omega, by omega, ?_⟩ | refine ⟨by omega, by omega, ?_⟩ | refine ⟨by omega, ?_⟩ | refine .inl ?_)); (first | (intro b; intros; refine hO.out _ _ ?_) | refine hO.out _ _ ?_)) | ((first | refine Tri.call (MC.out _ _) ?_); (first | rintro _ _ ⟨rfl, h9⟩; replace h9 := h9.symm; subst h9 | rintro _ _ ⟨_, rfl, rfl⟩ | rintro _ _ ⟨_, _, rfl, rfl⟩ | rintro _ _ ⟨_, _, _, rfl, rfl⟩); refine hO.out _ _ ?_)); clear hO; (try clear K9); (first | refine aput_some (by decide) ?_ | refine aput_none ?_)) | refine aops_end ?_ | ((repeat ((fail_if_success (refine hK.out _ _ ?_)); clear hK; (try clear hP EG); (try clear KS))); refine hK.out _ _ ?_; clear hK; (try clear hP EG); try clear KS)))
          refine' wlk1 HI.out
          ((try simp [*]); (try simp (discharger := omega) only [wrap_i64, dec_t, dec_f]))
          exact .mk _ σ (.refl _) leT ⟨(by (try rw [if_neg h4]); rw [HE.out, hst.out]; try rfl), rfl⟩
      · have hke : k = m.length := by omega
        subst hke
        refine' wlk0
        ((try simp [*]); (try simp (discharger := omega) only [wrap_i64, dec_t, dec_f]))
        exact .mk _ σ (.refl _) leT ⟨(by (try rw [if_neg h4]); rw [HE.out, List.drop_length, V.chkPM]; try rfl), rfl⟩
end Go.Proofs.YtmjendeigjdihaaDoor
