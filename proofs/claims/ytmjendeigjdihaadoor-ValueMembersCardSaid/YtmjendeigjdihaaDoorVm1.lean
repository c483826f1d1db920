/-
  The card of the law ValueMembers: it holds for every input.
-/
import Derived.Test.YtmjendeigjdihaaDoorVc8
import Derived.Test.YtmjendeigjdihaaDoorVc5
import Derived.Test.YtmjendeigjdihaaDoorVc10
import Derived.Test.YtmjendeigjdihaaDoorVp1
import Derived.Test.YtmjendeigjdihaaDoorVt1
import Derived.Test.YtmjendeigjdihaaDoorCards
import Derived.Test.YtmjendeigjdihaaDoorTie
/-
  Values (chapter 1): the document's Members.
-/
namespace Go.Proofs.YtmjendeigjdihaaDoor
open Go.RowKit
set_option maxRecDepth 100000
set_option linter.unusedVariables false
set_option linter.unusedSimpArgs false
attribute [local irreducible] awp aops aop aput aseq ablock TriX Tri Ret Fresh dq adraw dtail dals dfin Wk

theorem ins_at : ∀ (out : List Mem) (x : Mem) (k : Nat), k ≤ out.length → (∀ j (h : j < out.length), j < k → klt x out[j] = false) → (∀ j (h : j < out.length), k ≤ j → klt x out[j] = true) →
    insM out x = out.take k ++ x :: out.drop k
  | [], x, k, hk, _, _ => by simp [insM]
  | y :: out, x, 0, _, _, h2 => by
    have := h2 0 (by simp) (Nat.le_refl _)
    rw [insM, if_pos (by simpa using this)]
    rfl
  | y :: out, x, k + 1, hk, h1, h2 => by
    have := h1 0 (by simp) (by omega)
    rw [insM, if_neg (by simpa using this), ins_at out x k (by simpa using hk) (fun j h hj => h1 (j + 1) (Nat.succ_lt_succ h) (by omega)) (fun j h hj => h2 (j + 1) (Nat.succ_lt_succ h) (by omega))]
    rfl
/-- Behind k rounds. -/
def behK (l : List Mem) (k : Nat) : List Mem := (l.take k).foldl insM []
theorem behK_len (l : List Mem) (k : Nat) (hk : k ≤ l.length) : (behK l k).length = k := by
  have := sortM_len (l.take k)
  rw [List.length_take, Nat.min_eq_left hk] at this
  exact this
theorem behK_sorted (l : List Mem) (k : Nat) : Sorted (behK l k) := sortM_sorted (l.take k)
theorem behK_succ (l : List Mem) (k : Nat) (h : k < l.length) : behK l (k + 1) = insM (behK l k) l[k] := by
  rw [behK, List.take_succ_eq_append_getElem h, List.foldl_append]
  rfl
theorem behK_all (l : List Mem) : behK l l.length = sortM l := by
  rw [behK, List.take_length]
  rfl
theorem behK_at (l : List Mem) (k a : Nat) (h : k < l.length) (ha : a ≤ (behK l k).length) (h1 : a = 0 ∨ ∃ h : a - 1 < (behK l k).length, klt l[k] (behK l k)[a - 1] = false)
    (h2 : ∀ j (g : j < (behK l k).length), a ≤ j → klt l[k] (behK l k)[j] = true) : behK l (k + 1) = (behK l k).take a ++ l[k] :: (behK l k).drop a := by
  rw [behK_succ l k h]
  refine ins_at _ _ a ha (fun j g hj => ?_) h2
  rcases h1 with h1 | ⟨g1, h1⟩
  · omega
  · rcases Nat.lt_or_ge j (a - 1) with hlt | hge
    · have := List.pairwise_iff_getElem.1 (behK_sorted l k) j (a - 1) g g1 hlt
      exact kle_trans this h1
    · have : j = a - 1 := by omega
      subst this
      exact h1
theorem bgt (a b : ByteArray) : (!(Op.bytesLess a.toList b.toList || decide (a = b))) = Op.bytesLess b.toList a.toList := by
  cases h1 : Op.bytesLess a.toList b.toList with
  | true =>
    have := klt_asym (x := (a, V.zero)) (y := (b, V.zero)) h1
    have h2 : Op.bytesLess b.toList a.toList = false := this
    rw [h2]
    rfl
  | false =>
    by_cases h : a = b
    · subst h
      simp [h1]
    · cases h2 : Op.bytesLess b.toList a.toList with
      | true => simp [h]
      | false => exact absurd (klt_tri (x := (a, V.zero)) (y := (b, V.zero)) h1 h2) h
/-- A list that is made anew in each round of a loop. -/
def GrowL (σ1 : St) (ds : List (List D)) (d : D) (τ : St) : Prop := (ds = [] ∧ d = .lst false 7 [] ∧ τ = σ1) ∨ ∃ bt cap, Fresh σ1 bt ∧ ds ≠ [] ∧ d = .slice (some (bt, cap)) false 7 ds ∧ τ = σ1.set bt (some (.tip 43 7 cap ds.length))
theorem GrowL.more {σ1 : St} {ds : List (List D)} (bt cap n : Nat) (hb : Fresh σ1 bt) (hn : ds.length = n) (hd : 0 < n) : GrowL σ1 ds (.slice (some (bt, cap)) false 7 ds) (σ1.set bt (some (.tip 43 7 cap n))) :=
  .inr ⟨bt, cap, hb, by rintro rfl; simp at hn; omega, rfl, by rw [hn]⟩
/-- What the document's Members hands back. -/
def membersE (zs : List Mem) : D := match dupK zs with
  | some k => .tup [.agg V.zero.d, .agg (ErT.in_ k (ErT.err 6)).d]
  | none => .tup [.agg (V.mk 5 false 0 ByteArray.empty [] zs).d, .agg ErT.none.d]
attribute [local simp] ErT.d
set_option maxHeartbeats 8000000 in
theorem membersRT (l : List Mem) (σ : St) (hl : l.length * 104 ≤ 140737488351232) (hms : V.okm l) : Tri Tryd.prog 18 [.lst false 7 (l.map mD)] σ fun d τ => d = membersE (sortM l) ∧ τ = σ := by
  obtain ⟨res, hres⟩ : ∃ res, res = membersE (sortM l) := ⟨_, rfl⟩
  rw [← hres]
  have HRES := Lib.hid hres
  clear hres
  have HM := Lib.hid (fun x (hx : x ∈ sortM l) => (V.okm_mem hms ((StPerm.mem (sortM_perm l)).2 hx)).1)
  clear hms
  refine tri_fn Tryd.func18 rfl Tryd.ntmps18 Tryd.results18 (Nat.le_of_ble_eq_true rfl) ?_
  refine' wlk0
  refine' gen2S
  rename_i bv _ _ _ _
  refine awp_loopM [4, 5, 6, 10, 11, 12, 13, 14, 15, 16, 17, 18, 19, 20, 21, 22, 23, 24, 25, 26, 27, 28, 29, 30, 31, 32, 33, 34, 35, 36, 37, 38, 39, 40, 41, 42, 43, 44, 45, 46, 47, 48] (fun X τ => ∃ (k : Nat) (dl : D), k ≤ l.length ∧ X 10 = .i k ∧ X 4 = dl ∧ GrowL σ1 ((behK l k).map mD) dl τ) (fun X _ => l.length - (X 10).int.toNat) ?_ ?_
  · refine .slot 4 (.lst false 7 []) (by simp; exact .nil _ _) (.same ⟨mixT, 0, _, by omega, ?_, rfl, ?_⟩)
    · simp [*]
    · exact .inl ⟨by simp [behK], by simp, rfl⟩
  · rintro X τ ⟨k, dl, hk, h10, h4, hg⟩ _ hL
    by_cases hlt : k < l.length
    · clear HM
      have hbl := behK_len l k hk
      have BS := Lib.hid (behK_at l k)
      have BL := Lib.hid (behK_len l (k + 1) (by omega))
      obtain ⟨out, hout⟩ : ∃ out, out = behK l k := ⟨_, rfl⟩
      rw [← hout] at hg hbl BS
      clear hout
      rcases hg with ⟨h1, rfl, rfl⟩ | ⟨bt, cap, g1, g2, rfl, rfl⟩
      · obtain rfl : out = [] := by simpa using h1
        obtain rfl : k = 0 := hbl.symm
        clear h1
        refine' wlk0
        refine awp_loopM [6, 15, 16, 17, 18, 19, 20, 21, 22, 23, 24, 25, 26, 27, 28, 29, 30, 31, 32] (fun Y τ' => Y 6 = .i 0 ∧ τ' = τ) (fun Y _ => 0) ?_ ?_
        · refine .same ⟨mix_self _ _, ?_, rfl⟩
          simp [*]
        · rintro Y τ' ⟨h6, rfl⟩ _ hM
          refine' wlk0
          (refine awp_draw (fun KS EG hK hP => ?_); refine draw_rule rfl [(0, true), (1, true), (2, true), (3, true), (4, true), (5, true), (6, true), (7, true), (8, false), (9, true), (10, true), (11, true), (12, true), (13, false), (14, true), (15, true)] [] [] (by kernel_rfl) ?_; refine' dqs0)
          refine' wlk0
          (refine awp_draw (fun KS EG hK hP => ?_); refine draw_rule rfl [(0, true), (1, true), (2, true), (3, true), (5, true), (6, true), (7, true), (8, true), (9, true), (11, true), (12, true), (13, true)] [] [4, 10, 14, 15] (by kernel_rfl) ?_; repeat (first | ((first | refine dq_pu rfl ?_ | refine dq_rd rfl ?_ | (refine dq_gTp rfl rfl ?_ ?_; (focus (simp [*]; done))) | (refine dq_gTr rfl rfl ?_ ?_; (focus (simp [*]; done)))); constructor; refine And.intro (fun _ _ hO => ?_) ?_; (focus (simp [*]; (try simp (discharger := omega) only [wrap_i64, dec_t, dec_f]); (first | ((try (first | refine .inl ⟨?_, by omega, by omega⟩ | refine ⟨by omega, by omega, ?_⟩ | refine ⟨by omega, ?_⟩ | refine .inl ?_)); exact hO.out _ _ (.refl _) (St.le_refl _))))); (first | refine aput_some (by decide) ?_ | refine aput_none ?_)) | ((first | (refine dq_gF rfl rfl ?_ ?_; (focus (simp [*]; done))) | (refine dq_gU rfl rfl ?_ ?_; (focus (simp [*]; done)))); (first | refine aput_some (by decide) ?_ | refine aput_none ?_)) | refine dq_nil ?_))
          first | refine dtail_none ?_ | refine dtail_some ?_
          refine aops_idx rfl (fun K9 hO => ?_)
          simp [*]
          refine .inr (hO.out _ _ ?_)
          clear hO
          first | refine aput_some (by decide) ?_ | refine aput_none ?_
          refine aops_idx rfl (fun K9 hO => ?_)
          simp [*]
          refine .inr (.inl ?_)
          intro b2 c2
          intros
          have n21 := ne_own (b := b2) hown1 (by assumption)
          have n22 := ne_own (b := b2) hown2 (by assumption)
          refine hO.out _ _ ?_
          clear hO
          first | refine aput_some (by decide) ?_ | refine aput_none ?_
          refine aops_idx rfl (fun K9 hO => ?_)
          simp [*]
          (try refine ⟨by omega, by omega, ?_⟩)
          intro b3 c3
          intros
          have n31 := ne_own (b := b3) hown1 (by assumption)
          have n32 := ne_own (b := b3) hown2 (by assumption)
          refine hO.out _ _ ?_
          clear hO
          first | refine aput_some (by decide) ?_ | refine aput_none ?_
          refine aops_idx rfl (fun K9 hO => ?_)
          simp [*]
          refine hO.out _ _ ?_
          clear hO
          first | refine aput_some (by decide) ?_ | refine aput_none ?_
          refine aops_end ?_
          refine' wlk0
          have hb : behK l (0 + 1) = [l[0]] := by
            have := BS.out 0 hlt (by simp) (.inl rfl) (fun j g hj => by simp at g)
            simpa using this
          have hbl1 := BL.out
          refine hL.out _ _ (.less (τ'.set b3 (some (.tip 43 7 c3 (0 + 1)))) leT (.same ⟨mixT, ⟨0 + 1, .slice (some (b3, c3)) false 7 ((behK l (0 + 1)).map mD), by omega, ?_, ?_, GrowL.more _ _ _ (by assumption) (by rw [List.length_map]; exact hbl1) (by omega)⟩, ?_⟩))
          · simp [*]
          · simp [*]
          · simp [*, D.int]; omega
      · have htk : (out.map mD).take k = out.map mD := List.take_of_length_le (by simp; omega)
        have hm1 := ne_own (b := bt) hown1 g1
        have hm2 := ne_own (b := bt) hown2 g1
        refine' wlk0
        refine awp_loopM [6, 15, 16, 17, 18, 19, 20, 21, 22, 23, 24, 25, 26, 27, 28, 29, 30, 31, 32] (fun Y τ' => ∃ a : Nat, a ≤ k ∧ Y 6 = .i a ∧ (∀ j (g : j < out.length), a ≤ j → klt l[k] out[j] = true) ∧ τ' = σ1.set bt (some (.tip 43 7 cap k))) (fun Y _ => (Y 6).int.toNat) ?_ ?_
        · refine .same ⟨mix_self _ _, k, by omega, ?_, fun j g hj => by omega, ?_⟩
          · simp [*]
          · simp [*]
        · rintro Y τ' ⟨a, ha, h6, hj, rfl⟩ _ hM
          replace hj := Lib.hid hj
          by_cases h0 : a = 0
          · subst h0
            refine' wlk0
            (refine awp_draw (fun KS EG hK hP => ?_); refine draw_rule rfl [(0, true), (1, true), (2, true), (3, true), (4, true), (5, true), (6, true), (7, true), (8, false), (9, true), (10, true), (11, true), (12, true), (13, false), (14, true), (15, true)] [] [] (by kernel_rfl) ?_; refine' dqs0)
            refine' wlk0
            (refine awp_draw (fun KS EG hK hP => ?_); refine draw_rule rfl [(0, true), (1, true), (2, true), (3, true), (5, true), (6, true), (7, true), (8, true), (9, true), (11, true), (12, true), (13, true)] [] [4, 10, 14, 15] (by kernel_rfl) ?_; repeat (first | ((first | refine dq_pu rfl ?_ | refine dq_rd rfl ?_ | (refine dq_gTp rfl rfl ?_ ?_; (focus (simp [*]; done))) | (refine dq_gTr rfl rfl ?_ ?_; (focus (simp [*]; done)))); constructor; refine And.intro (fun _ _ hO => ?_) ?_; (focus (simp [*]; (try simp (discharger := omega) only [wrap_i64, dec_t, dec_f]); (first | ((try (first | refine .inl ⟨?_, by omega, by omega⟩ | refine ⟨by omega, by omega, ?_⟩ | refine ⟨by omega, ?_⟩ | refine .inl ?_)); exact hO.out _ _ (.refl _) (St.le_refl _))))); (first | refine aput_some (by decide) ?_ | refine aput_none ?_)) | ((first | (refine dq_gF rfl rfl ?_ ?_; (focus (simp [*]; done))) | (refine dq_gU rfl rfl ?_ ?_; (focus (simp [*]; done)))); (first | refine aput_some (by decide) ?_ | refine aput_none ?_)) | refine dq_nil ?_))
            first | refine dtail_none ?_ | refine dtail_some ?_
            refine aops_idx rfl (fun K9 hO => ?_)
            simp [*]
            refine .inr (hO.out _ _ ?_)
            clear hO
            first | refine aput_some (by decide) ?_ | refine aput_none ?_
            refine aops_idx rfl (fun K9 hO => ?_)
            simp [*]
            refine .inr (.inl ?_)
            intro b2 c2
            intros
            have n21 := ne_own (b := b2) hown1 (by assumption)
            have n22 := ne_own (b := b2) hown2 (by assumption)
            refine hO.out _ _ ?_
            clear hO
            first | refine aput_some (by decide) ?_ | refine aput_none ?_
            refine aops_idx rfl (fun K9 hO => ?_)
            simp [*]
            (try refine ⟨by omega, by omega, ?_⟩)
            intro b3 c3
            intros
            have n31 := ne_own (b := b3) hown1 (by assumption)
            have n32 := ne_own (b := b3) hown2 (by assumption)
            refine hO.out _ _ ?_
            clear hO
            first | refine aput_some (by decide) ?_ | refine aput_none ?_
            refine aops_idx rfl (fun K9 hO => ?_)
            simp [*]
            refine hO.out _ _ ?_
            clear hO
            first | refine aput_some (by decide) ?_ | refine aput_none ?_
            refine aops_end ?_
            refine' wlk0
            (try rw [show 1 + k = k + 1 from Nat.add_comm 1 k])
            have hb : behK l (k + 1) = l[k] :: out := by
              have := BS.out 0 hlt (by simp) (.inl rfl) hj.out
              simpa using this
            have hbl1 := BL.out
            refine hL.out _ _ (.less (σ1.set b3 (some (.tip 43 7 c3 (k + 1)))) leT (.same ⟨mixT, ⟨k + 1, .slice (some (b3, c3)) false 7 ((behK l (k + 1)).map mD), by omega, ?_, ?_, GrowL.more _ _ _ (by assumption) (by rw [List.length_map]; exact hbl1) (by omega)⟩, ?_⟩))
            · simp [*]
            · simp [*]
            · simp [*, D.int]; omega
          · obtain ⟨y, hy, hy2⟩ : ∃ y, out[a - 1]? = some y ∧ out[a - 1]'(by omega) = y := ⟨_, List.getElem?_eq_getElem (by omega), rfl⟩
            have hgt := bgt y.1 l[k].1
            replace hy2 := Lib.hid hy2
            cases hlss : Op.bytesLess l[k].1.toList y.1.toList with
            | true =>
              rw [hlss] at hgt
              refine' wlk0
              (refine awp_draw (fun KS EG hK hP => ?_); refine draw_rule rfl [(0, true), (1, true), (2, true), (3, true), (4, true), (5, true), (6, true), (7, true), (8, false), (9, true), (10, true), (11, true), (12, true), (13, false), (14, true), (15, true)] [] [] (by kernel_rfl) ?_; refine' dqs0)
              refine' wlk0
              refine hM.out _ _ (.same ⟨mixT, ⟨a - 1, by omega, ?_, ?_, ?_⟩, ?_⟩)
              · simp [*]
                omega
              · intro j g hja
                rcases Nat.lt_or_ge j a with h | h
                · have : j = a - 1 := by omega
                  subst this
                  rw [hy2.out]
                  exact hlss
                · exact hj.out j g h
              · simp [*]
              · simp [*, D.int]; omega
            | false =>
              rw [hlss] at hgt
              refine' wlk0
              (refine awp_draw (fun KS EG hK hP => ?_); refine draw_rule rfl [(0, true), (1, true), (2, true), (3, true), (4, true), (5, true), (6, true), (7, true), (8, false), (9, true), (10, true), (11, true), (12, true), (13, false), (14, true), (15, true)] [] [] (by kernel_rfl) ?_; refine' dqs0)
              refine' wlk0
              have hmn : min a out.length = a := by omega
              have hne : out ≠ [] := by rintro rfl; simp at hbl; omega
              (refine awp_draw (fun KS EG hK hP => ?_); refine draw_rule rfl [(0, true), (1, true), (2, true), (3, true), (5, true), (6, true), (7, true), (8, true), (9, true), (11, true), (12, true), (13, true)] [] [4, 10, 14, 15] (by kernel_rfl) ?_; repeat (first | ((first | refine dq_pu rfl ?_ | refine dq_rd rfl ?_ | (refine dq_gTp rfl rfl ?_ ?_; (focus (simp [*]; done))) | (refine dq_gTr rfl rfl ?_ ?_; (focus (simp [*]; done)))); constructor; refine And.intro (fun _ _ hO => ?_) ?_; (focus (simp [*]; (try simp (discharger := omega) only [wrap_i64, dec_t, dec_f]); (first | ((try (first | refine .inl ⟨?_, by omega, by omega⟩ | refine ⟨by omega, by omega, ?_⟩ | refine ⟨by omega, ?_⟩ | refine .inl ?_)); exact hO.out _ _ (.refl _) (St.le_refl _))))); (first | refine aput_some (by decide) ?_ | refine aput_none ?_)) | ((first | (refine dq_gF rfl rfl ?_ ?_; (focus (simp [*]; done))) | (refine dq_gU rfl rfl ?_ ?_; (focus (simp [*]; done)))); (first | refine aput_some (by decide) ?_ | refine aput_none ?_)) | refine dq_nil ?_))
              first | refine dtail_none ?_ | refine dtail_some ?_
              refine aops_idx rfl (fun K9 hO => ?_)
              simp [*]
              refine .inr (.inl ⟨by omega, by omega, ?_⟩)
              intro b1 c1
              intros
              have n11 := ne_own (b := b1) hown1 (by assumption)
              have n12 := ne_own (b := b1) hown2 (by assumption)
              refine hO.out _ _ ?_
              clear hO
              first | refine aput_some (by decide) ?_ | refine aput_none ?_
              refine aops_idx rfl (fun K9 hO => ?_)
              simp [*]
              (try refine ⟨by omega, by omega, ?_⟩)
              intro b2 c2
              intros
              have n21 := ne_own (b := b2) hown1 (by assumption)
              have n22 := ne_own (b := b2) hown2 (by assumption)
              refine hO.out _ _ ?_
              clear hO
              first | refine aput_some (by decide) ?_ | refine aput_none ?_
              refine aops_idx rfl (fun K9 hO => ?_)
              simp [*]
              (try refine ⟨by omega, by omega, ?_⟩)
              intro b3 c3
              intros
              have n31 := ne_own (b := b3) hown1 (by assumption)
              have n32 := ne_own (b := b3) hown2 (by assumption)
              refine hO.out _ _ ?_
              clear hO
              first | refine aput_some (by decide) ?_ | refine aput_none ?_
              refine aops_idx rfl (fun K9 hO => ?_)
              simp [*]
              refine hO.out _ _ ?_
              clear hO
              first | refine aput_some (by decide) ?_ | refine aput_none ?_
              refine aops_end ?_
              refine' wlk0
              (try rw [show a + 1 + (k - a) = k + 1 by omega])
              have hb : behK l (k + 1) = out.take a ++ l[k] :: out.drop a := by
                exact BS.out a hlt (by omega) (.inr ⟨by omega, by rw [hy2.out]; exact hlss⟩) hj.out
              have hbl1 := BL.out
              refine hL.out _ _ (.less (σ1.set b3 (some (.tip 43 7 c3 (k + 1)))) leT (.same ⟨mixT, ⟨k + 1, .slice (some (b3, c3)) false 7 ((behK l (k + 1)).map mD), by omega, ?_, ?_, GrowL.more _ _ _ (by assumption) (by rw [List.length_map]; exact hbl1) (by omega)⟩, ?_⟩))
              · simp [*]
              · simp [*]
              · simp [*, D.int]; omega
    · have hke : k = l.length := by omega
      subst hke
      rw [behK_all] at hg
      have hzl := sortM_len l
      obtain ⟨zs, hzs⟩ : ∃ zs, zs = sortM l := ⟨_, rfl⟩
      rw [← hzs] at hg HRES hzl HM
      clear hzs hL
      rcases hg with ⟨h1, rfl, rfl⟩ | ⟨bt, cap, g1, g2, rfl, rfl⟩
      · obtain rfl : zs = [] := by simpa using h1
        refine' wlk0
        refine awp_loopM [7, 51, 52, 53, 54, 55, 56, 57, 58, 59, 60, 61, 62, 63, 64, 65, 66, 67, 68, 69, 70, 71, 72, 73, 74, 75, 76, 77, 78] (fun Y τ' => Y 51 = .i 0 ∧ τ' = τ) (fun Y _ => 0) ?_ ?_
        · exact .same ⟨mix_self _ _, by simp [*], rfl⟩
        · rintro Y τ' ⟨h51, rfl⟩ _ hM
          refine' wlk1 noneT
          ((try simp [*]); (try simp (discharger := omega) only [wrap_i64, dec_t, dec_f]))
          exact .mk _ σ (.tupL (.cons (.aggL (.cons (.refl _) (.cons (.refl _) (.cons (.refl _) (.cons (.refl _) (.cons (.nil false 6) (.cons (.refl _) .nil))))))) (.cons (.refl _) .nil))) leT ⟨by rw [HRES.out]; rfl, rfl⟩
      · have hm1 := ne_own (b := bt) hown1 g1
        have hm2 := ne_own (b := bt) hown2 g1
        refine' wlk0
        obtain ⟨n, hn⟩ : ∃ n, n = l.length := ⟨_, rfl⟩
        rw [← hn] at hl h10 hzl ⊢
        obtain ⟨cs, hcs⟩ : ∃ cs, cs = zs.map mD := ⟨_, rfl⟩
        have hcl : cs.length = n := by rw [hcs, List.length_map, hzl]
        have CS := Lib.hid (fun k (hk : k < zs.length) => (show cs[k]? = some (.s zs[k].1 :: zs[k].2.d) by rw [hcs]; simp [mD, List.getElem?_eq_getElem hk]))
        have HC := Lib.hid hcs
        have HZ := Lib.hid hzl
        have HTL := Lib.hid (St.le_set (τ := σ1) (St.le_refl σ1) g1 : σ1.le (σ1.set bt (some (.tip 43 7 cap n))))
        rw [← hcs] at h4 ⊢
        clear hcs hzl
        refine awp_loopM [7, 51, 52, 53, 54, 55, 56, 57, 58, 59, 60, 61, 62, 63, 64, 65, 66, 67, 68, 69, 70, 71, 72, 73, 74, 75, 76, 77, 78] (fun Y τ' => ∃ k : Nat, k ≤ n ∧ Y 51 = .i k ∧ Hid (dupK zs = dupK (zs.drop (k - 1))) ∧ τ' = σ1) (fun Y _ => n - (Y 51).int.toNat) ?_ ?_
        · exact .less σ1 HTL.out (.same ⟨mix_self _ _, 0, Nat.zero_le _, by simp [*], Lib.hid rfl, rfl⟩)
        · rintro Y τ ⟨k, hk, h51, hd, rfl⟩ _ hM
          by_cases hlt : k < n
          · have hltz : k < zs.length := by rw [HZ.out]; exact hlt
            have c1 := CS.out k hltz
            obtain ⟨dv, hdv⟩ : ∃ dv, dv = zs[k].2.d := ⟨_, rfl⟩
            have hd6 : dv.length = 6 := hdv ▸ V.d_len _
            have ht6 : dv.take 6 = dv := List.take_of_length_le (by omega)
            rw [← hdv] at c1
            clear hdv
            have hlt' : (k : Int) < n := by omega
            rcases k with _ | k
            · refine' wlk0
              (refine awp_draw (fun KS EG hK hP => ?_); refine draw_rule rfl [(0, true), (1, true), (2, true), (3, true), (4, true), (5, true), (6, true), (7, false), (8, true), (9, true), (10, true), (11, true), (12, true), (13, false), (14, true), (15, true)] [] [] (by kernel_rfl) ?_; refine' dqs0)
              refine' wlk0
              refine hM.out _ _ (.same ⟨mixT, ⟨1, by omega, ?_, hd, rfl⟩, ?_⟩)
              · simp [*]
              · simp [*, D.int]
                try omega
            · have hkz : k < zs.length := by omega
              have c0 := CS.out k hkz
              obtain ⟨dw, hdw⟩ : ∃ dw, dw = zs[k].2.d := ⟨_, rfl⟩
              rw [← hdw] at c0
              clear hdw
              have hst : dupK (zs.drop k) = if zs[k].1 = zs[k + 1].1 then some zs[k + 1].1 else dupK (zs.drop (k + 1)) := by
                rw [List.drop_eq_getElem_cons hkz, List.drop_eq_getElem_cons hltz, dupK]
              have HST := Lib.hid hst
              have HSZ := Lib.hid (HM.out zs[k + 1] (List.getElem_mem hltz))
              obtain ⟨a, ha⟩ : ∃ a, a = zs[k].1 := ⟨_, rfl⟩
              obtain ⟨a', ha'⟩ : ∃ a', a' = zs[k + 1].1 := ⟨_, rfl⟩
              rw [← ha, ← ha'] at HST
              rw [← ha] at c0
              rw [← ha'] at c1 HSZ
              clear ha ha' hst
              have hk1 : ((k : Int) + 1) < n := by omega
              have hk0 : (k : Int) < n := by omega
              have hkg : (0 : Int) < (k : Int) + 1 := by omega
              have hw1 : IntKind.i64.wrap ((k : Int) + 1 - 1) = k := by rw [wrap_i64 _ (by omega) (by omega)]; omega
              have hw2 : IntKind.i64.wrap ((k : Int) + 1 + 1) = (k : Int) + 1 + 1 := wrap_i64 _ (by omega) (by omega)
              by_cases hq : a = a'
              · subst hq
                have IN := Lib.hid (inT a (ErT.err 6) · (by have := HSZ.out; simp [ErT.err]; omega))
                refine' wlk0
                (refine awp_draw (fun KS EG hK hP => ?_); refine draw_rule rfl [(0, true), (1, true), (2, true), (3, true), (4, true), (5, true), (6, true), (7, false), (8, true), (9, true), (10, true), (11, true), (12, true), (13, false), (14, true), (15, true)] [] [] (by kernel_rfl) ?_; refine' dqs0)
                refine' wlk0
                (refine awp_draw (fun KS EG hK hP => ?_); refine draw_rule rfl [(0, true), (1, true), (2, true), (3, true), (4, true), (5, false), (6, false), (7, false)] [] [8, 9] (by kernel_rfl) ?_; refine' dqs2 (errT 6) IN.out)
                refine' wlk0
                ((try simp [*]); (try simp (discharger := omega) only [wrap_i64, dec_t, dec_f]))
                exact .mk _ σ (.tupL (.cons zero_le (.cons (.refl _) .nil))) leT ⟨by rw [HRES.out, membersE, hd.out, show k + 1 - 1 = k by omega, HST.out, if_pos rfl]; rfl, rfl⟩
              · have hq2 : ¬ a' = a := fun e => hq e.symm
                refine' wlk0
                (refine awp_draw (fun KS EG hK hP => ?_); refine draw_rule rfl [(0, true), (1, true), (2, true), (3, true), (4, true), (5, true), (6, true), (7, false), (8, true), (9, true), (10, true), (11, true), (12, true), (13, false), (14, true), (15, true)] [] [] (by kernel_rfl) ?_; refine' dqs0)
                refine' wlk0
                refine hM.out _ _ (.same ⟨mixT, ⟨k + 1 + 1, by omega, ?_, Lib.hid (by rw [hd.out, show k + 1 - 1 = k by omega, HST.out, if_neg hq]; rfl), rfl⟩, ?_⟩)
                · simp [*]
                · simp [*, D.int]
                  try omega
          · have hke : k = n := by omega
            have hdn : dupK zs = none := by
              rw [hd.out, hke]
              have : (zs.drop (n - 1)).length ≤ 1 := by rw [List.length_drop, HZ.out]; omega
              rcases hz : zs.drop (n - 1) with _ | ⟨z, _ | ⟨z2, r⟩⟩
              · rfl
              · rfl
              · rw [hz] at this
                simp at this
            have HDN := Lib.hid hdn
            rw [hke] at h51
            clear hke hlt hk hdn hd CS
            refine' wlk1 noneT
            ((try simp [*]); (try simp (discharger := omega) only [wrap_i64, dec_t, dec_f]))
            refine .mk _ σ (.tupL (.cons (.aggL (.cons (.refl _) (.cons (.refl _) (.cons (.refl _) (.cons (.refl _) (.cons (.nil false 6) (.cons (.lst _ _ _ _) .nil))))))) (.cons (.refl _) .nil))) leT ⟨?_, rfl⟩
            rw [HRES.out, membersE, HDN.out, HC.out, V.d, V.ds_map, V.dm_map]
            rfl
end Go.Proofs.YtmjendeigjdihaaDoor
/-
  Values (chapter 1): back.
-/
namespace Go.Proofs.YtmjendeigjdihaaDoor
open Go.RowKit
set_option maxRecDepth 100000
set_option linter.unusedVariables false
set_option linter.unusedSimpArgs false
attribute [local irreducible] awp aops aop aput aseq ablock TriX Tri Ret Fresh dq adraw dtail dals dfin Wk

set_option maxHeartbeats 4000000 in
theorem refT (v : V) (σ : St) (hv : v.ok) : Tri Tryd.prog 46 [.agg v.d] σ fun d τ => d = .agg v.d ∧ τ = σ := by
  obtain ⟨N, hN⟩ : ∃ N, N = v.w := ⟨_, rfl⟩
  induction N using Nat.strongRecOn generalizing v σ with
  | _ N ih =>
    obtain ⟨kd, y, i, t, l, m⟩ := v
    subst hN
    rw [V.w] at ih
    rw [V.ok] at hv
    obtain ⟨ht, hl, hm, hls, hms⟩ := hv
    have IL := Lib.hid (fun (x : V) (hx : x ∈ l) (σ : St) => ih x.w (by have := V.ws_mem hx; omega) x σ (V.oks_mem hls hx) rfl)
    have IM := Lib.hid (fun (x : ByteArray × V) (hx : x ∈ m) (σ : St) => ih x.2.w (by have := V.wm_mem hx; omega) x.2 σ (V.okm_mem hms hx).2 rfl)
    clear ih hls hms
    rw [V.d, V.ds_map, V.dm_map]
    refine tri_fn Tryd.func46 rfl Tryd.ntmps46 Tryd.results46 (Nat.le_of_ble_eq_true rfl) ?_
    refine' wlk0
    refine' genI2S
    refine awp_loopM [5, 20, 21, 22, 23, 24, 25, 26, 27, 28, 29, 30, 31] (fun X τ => ∃ (k : Nat) (dl : D) (τ0 : St), k ≤ l.length ∧ X 20 = .i k ∧ Grow σ1 bo 25 6 ((l.map V.d).take k) dl τ0 ∧ τ = τ0.set bo (some (.box 25 [.i kd, .b y, .i i, .s t, dl, .v (.slice none 0 0)]))) (fun X _ => l.length - (X 20).int.toNat) ?_ ?_
    · refine .same ⟨mix_self _ _, 0, _, _, by omega, ?_, Grow.start _ _ _ _, rfl⟩
      simp [*]
    · rintro X τ ⟨k, dl, τ0, hk, h20, hg, rfl⟩ _ hL
      by_cases hlt : k < l.length
      · have IH := Lib.hid (IL.out l[k] (List.getElem_mem hlt))
        rcases hg.cases_take hlt with ⟨rfl, rfl, rfl⟩ | ⟨bt, cap, g1, g3, g4, g2, rfl, rfl⟩
        · refine' wlk1 IH.out
          (refine awp_draw (fun KS EG hK hP => ?_); refine draw_rule rfl [(0, true), (1, false), (2, false), (3, false), (4, true), (6, true)] [] [5, 7] (by kernel_rfl) ?_; refine' dqs1 IH.out)
          refine' wlk0
          refine hL.out _ _ (.less ((τ0.set b (some (.tip 25 6 _ 1))).set bo _) leT (.same ⟨mixT, ⟨1, _, _, by omega, ?_, Grow.take0 hlt b _ (by assumption) (by assumption), rfl⟩, ?_⟩))
          · simp [*]
          · simp [*, D.int]; omega
        · clear hg
          have hmin : min k l.length = k := by omega
          refine' wlk1 IH.out
          (refine awp_draw (fun KS EG hK hP => ?_); refine draw_rule rfl [(0, true), (1, false), (2, false), (3, false), (4, true), (6, true)] [] [5, 7] (by kernel_rfl) ?_; refine' dqs1 IH.out)
          refine' wlk0
          refine hL.out _ _ (.less ((σ1.set b (some (.tip 25 6 _ (k + 1)))).set bo _) leT (.same ⟨mixT, ⟨k + 1, _, _, by omega, ?_, Grow.take hlt b _ (by assumption) (by assumption), rfl⟩, ?_⟩))
          · simp [*]
          · simp [*, D.int]; omega
      · have hke : k = l.length := by omega
        replace hg := hg.done hke
        rw [hke] at h20
        clear hke hk hlt
        have hown1' := hg.le.2 _ _ hown1
        have hfr0 := hg.fresh hfr1
        have HL1 := Lib.hid hg.le
        have hown2' := hg.le.2 _ _ hown2
        clear hg hown1 hown2
        refine' wlk0
        clear hL
        refine awp_loopM [7, 35, 36, 37, 38, 39, 40, 41, 42, 43, 44, 45, 46, 47, 48, 49, 50] (fun X τ => ∃ (k : Nat) (dm : D) (τ2 : St), k ≤ m.length ∧ X 35 = .i k ∧ Grow τ0 bo 43 7 ((m.map fun x => .s x.1 :: x.2.d).take k) dm τ2 ∧ τ = τ2.set bo (some (.box 25 [.i kd, .b y, .i i, .s t, dl, dm]))) (fun X _ => m.length - (X 35).int.toNat) ?_ ?_
        · refine .same ⟨mix_self _ _, 0, _, _, by omega, ?_, Grow.start _ _ _ _, rfl⟩
          simp [*]
        · rintro X τ ⟨k, dm, τ2, hk, h35, hg, rfl⟩ _ hL
          by_cases hlt : k < m.length
          · have IH := Lib.hid (IM.out m[k] (List.getElem_mem hlt))
            rcases hg.cases_take hlt with ⟨rfl, rfl, rfl⟩ | ⟨bt, cap, g1, g3, g4, g2, rfl, rfl⟩
            · clear hg
              refine' wlk1 IH.out
              (refine awp_draw (fun KS EG hK hP => ?_); refine draw_rule rfl [(0, true), (1, false), (2, true), (3, false), (4, true), (5, false), (6, false), (7, true), (8, true), (10, true)] [] [9, 11] (by kernel_rfl) ?_; refine' dqs1 IH.out)
              refine' wlk0
              refine hL.out _ _ (.less ((τ2.set b (some (.tip 43 7 _ 1))).set bo _) leT (.same ⟨mixT, ⟨1, _, _, by omega, ?_, Grow.take0 hlt b _ (by assumption) (by assumption), rfl⟩, ?_⟩))
              · simp [*]
              · simp [*, D.int]; omega
            · clear hg
              have hmin : min k m.length = k := by omega
              refine' wlk1 IH.out
              (refine awp_draw (fun KS EG hK hP => ?_); refine draw_rule rfl [(0, true), (1, false), (2, true), (3, false), (4, true), (5, false), (6, false), (7, true), (8, true), (10, true)] [] [9, 11] (by kernel_rfl) ?_; refine' dqs1 IH.out)
              refine' wlk0
              refine hL.out _ _ (.less ((τ0.set b (some (.tip 43 7 _ (k + 1)))).set bo _) leT (.same ⟨mixT, ⟨k + 1, _, _, by omega, ?_, Grow.take hlt b _ (by assumption) (by assumption), rfl⟩, ?_⟩))
              · simp [*]
              · simp [*, D.int]; omega
          · have hke : k = m.length := by omega
            replace hg := hg.done hke
            rw [hke] at h35
            clear hke hk hlt
            have hfr2 := hg.fresh hfr0
            have HL2 := Lib.hid hg.le
            have hown3 := hg.le.2 _ _ hown2'
            have HLL := Lib.hid (St.le_trans HLE.out (St.le_trans HL1.out.2 HL2.out.2))
            clear hg
            refine' wlk0
            ((try simp [*]); (try simp (discharger := omega) only [wrap_i64, dec_t, dec_f]))
            exact .mk _ σ (.aggL (.cons (.refl _) (.cons (.refl _) (.cons (.refl _) (.cons (.refl _) (.cons HL1.out.1 (.cons HL2.out.1 .nil))))))) leT ⟨rfl, rfl⟩
end Go.Proofs.YtmjendeigjdihaaDoor
/-
  Values (chapter 1): the law ValueMembers.
-/
namespace Go.Proofs.YtmjendeigjdihaaDoor
open Go.RowKit
set_option maxRecDepth 100000
set_option linter.unusedVariables false
set_option linter.unusedSimpArgs false
attribute [local irreducible] awp aops aop aput aseq ablock TriX Tri Ret Fresh dq adraw dtail dals dfin Wk

theorem V.same_self (v : V) : v.same v = true := by
  obtain ⟨N, hN⟩ : ∃ N, N = v.w := ⟨_, rfl⟩
  induction N using Nat.strongRecOn generalizing v with
  | _ N ih =>
    obtain ⟨k, y, i, t, l, m⟩ := v
    subst hN
    rw [V.w] at ih
    have hL : ∀ l' : List V, (∀ x ∈ l', x ∈ l) → V.sameL l' l' = true := by
      intro l'
      induction l' with
      | nil => intro _; rfl
      | cons x l' ihl =>
        intro hin
        rw [V.sameL, ih x.w (by have := V.ws_mem (hin x List.mem_cons_self); omega) x rfl, ihl fun z hz => hin z (List.mem_cons_of_mem _ hz)]
        rfl
    have hM : ∀ m' : List (ByteArray × V), (∀ x ∈ m', x ∈ m) → V.sameM m' m' = true := by
      intro m'
      induction m' with
      | nil => intro _; rfl
      | cons x m' ihm =>
        obtain ⟨k, x⟩ := x
        intro hin
        rw [V.sameM, ih x.w (by have := V.wm_mem (hin (k, x) List.mem_cons_self); simp only at this; omega) x rfl, ihm fun z hz => hin z (List.mem_cons_of_mem _ hz)]
        simp
    rw [V.same]
    simp only [hL l fun _ h => h, hM m fun _ h => h]
    simp
set_option maxHeartbeats 4000000 in
theorem isT (v w : V) (hv : v.ok) (hw : w.ok) (σ : St) : Tri Tryd.prog 19 [.agg v.d, .agg w.d] σ fun d τ => d = .b (v.same w) ∧ τ = σ := by
  have RF := Lib.hid (fun σ => refT v σ hv)
  have SM := Lib.hid (fun σ => sameRT v w σ hv hw)
  clear hv hw
  obtain ⟨r, hr⟩ : ∃ r, r = v.same w := ⟨_, rfl⟩
  obtain ⟨dv, hdv⟩ : ∃ dv, dv = v.d := ⟨_, rfl⟩
  have hd6 : dv.length = 6 := hdv ▸ V.d_len v
  have ht6 : dv.take 6 = dv := List.take_of_length_le (by omega)
  obtain ⟨dw, hdw⟩ : ∃ dw, dw = w.d := ⟨_, rfl⟩
  have hw6 : dw.length = 6 := hdw ▸ V.d_len w
  have hv6 : dw.take 6 = dw := List.take_of_length_le (by omega)
  rw [← hr] at SM ⊢
  rw [← hdv] at RF SM ⊢
  rw [← hdw] at SM ⊢
  clear hr hdv hdw
  refine tri_fn Tryd.func19 rfl Tryd.ntmps19 Tryd.results19 (Nat.le_of_ble_eq_true rfl) ?_
  refine' wlk0
  (refine awp_draw (fun KS EG hK hP => ?_); refine draw_rule rfl [(0, false), (1, false), (2, false), (3, false), (4, true)] [] [] (by kernel_rfl) ?_; refine' dqs2 RF.out SM.out)
  refine' wlk0
  ((try simp [*]); (try simp (discharger := omega) only [wrap_i64, dec_t, dec_f]))
  exact .mk _ σ (.refl _) leT ⟨rfl, rfl⟩
/-- Members that are right, each by itself. -/
def rightB (x : Mem) : Bool := utf8B x.1 && decide ((x.2.chk 0).code = 0)
theorem okm_all' : ∀ (m : List (ByteArray × V)), (∀ x ∈ m, x.1.size ≤ 140737488351232 ∧ x.2.ok) → V.okm m
  | [], _ => trivial
  | (k, v) :: m, h => ⟨(h (k, v) List.mem_cons_self).1, (h (k, v) List.mem_cons_self).2, okm_all' m fun x hx => h x (List.mem_cons_of_mem _ hx)⟩
theorem chkPM_sorted : ∀ (zs : List Mem) (prev : Option ByteArray), Sorted zs → dupK zs = none → (∀ x ∈ zs, utf8B x.1 = true ∧ DeepAt x.2 1) →
    (∀ p, prev = some p → ∀ y, zs.head? = some y → ¬ y.1 = p ∧ kless y.1 p = false) → V.chkPM zs 1 prev = none ∨ ∃ e, V.chkPM zs 1 prev = some e ∧ e.inner = 3
  | [], _, _, _, _, _ => .inl (by rw [V.chkPM])
  | (k, v) :: r, prev, hs, hd, hx, hp => by
    obtain ⟨h1, h2⟩ := hx (k, v) List.mem_cons_self
    have hm : ∀ e, memP prev k e = e := by
      intro e
      unfold memP
      rw [if_neg (by rw [h1]; decide)]
      cases prev with
      | none => rfl
      | some p =>
        obtain ⟨g1, g2⟩ := hp p rfl (k, v) rfl
        have c0 : ¬ cmpB p k = 0 := fun h => g1 ((cmpB_zero p k).1 h)
        have c1 : ¬ cmpB p k = 1 := fun h => by rw [(cmpB_one p k).1 h] at g2; cases g2
        simp only [if_neg c0, if_neg c1]
    rw [V.chkPM, hm]
    by_cases hdp : v.dep + 1 ≤ 20
    · rw [h2.1 hdp]
      refine chkPM_sorted r (some k) (List.pairwise_cons.1 hs).2 ?_ (fun x hx' => hx x (List.mem_cons_of_mem _ hx')) ?_
      · cases r with
        | nil => rfl
        | cons y r =>
          rw [dupK] at hd
          split at hd
          · cases hd
          · exact hd
      · rintro p hp' y hy
        obtain rfl : k = p := by simpa using hp'
        cases r with
        | nil => simp at hy
        | cons z r =>
          obtain rfl : z = y := by simpa using hy
          rw [dupK] at hd
          refine ⟨fun e => ?_, (List.pairwise_cons.1 hs).1 z List.mem_cons_self⟩
          rw [if_pos (by exact e.symm)] at hd
          cases hd
    · obtain ⟨e, he, h3⟩ := h2.2 (show 20 < v.dep + ((1 : Nat) : Int) by omega)
      rw [he]
      exact .inr ⟨_, rfl, h3⟩
/-- What both Members hand back, and what is right about it. -/
theorem members_out (l : List Mem) (hl : l.length * 104 ≤ 140737488351232) (hms : V.okm l) : ∃ (v : V) (er : Option Er), membersD (sortM l) = .tup [.agg v.d, erD er] ∧ membersE (sortM l) = .tup [.agg v.d, .agg (told er).d] ∧ v.ok ∧
    (told er).path.size ≤ 9223372036854775807 ∧ ((told er).code = 0 → l.all rightB = true → (v.chk 0).code = 0 ∨ (v.chk 0).code = 3) := by
  have hmem : ∀ x ∈ sortM l, x ∈ l := fun x hx => (StPerm.mem (sortM_perm l)).2 hx
  cases hd : dupK (sortM l) with
  | some k =>
    have hk : k.size ≤ 140737488351232 := by
      have : ∀ (zs : List Mem), dupK zs = some k → ∃ x ∈ zs, x.1 = k := by
        intro zs
        induction zs with
        | nil => intro h; cases h
        | cons x zs ih =>
          intro h
          cases zs with
          | nil => cases h
          | cons y zs =>
            rw [dupK] at h
            split at h
            · exact ⟨y, by simp, by simpa using h⟩
            · obtain ⟨z, hz, e⟩ := ih h
              exact ⟨z, List.mem_cons_of_mem _ hz, e⟩
      obtain ⟨x, hx, rfl⟩ := this _ hd
      exact (V.okm_mem hms (hmem x hx)).1
    refine ⟨V.zero, some (.fault (-1) k (.code 6)), by rw [membersD, hd]; rfl, ?_, ⟨by decide, by simp, by simp, trivial, trivial⟩, ?_, ?_⟩
    · rw [membersE, hd, told_in k (.code 6) (by simp [Er.inner])]
      rfl
    · rw [told_in k (.code 6) (by simp [Er.inner])]
      have : (ByteArray.mk #[47]).size = 1 := rfl
      simp [ErT.in_, told, Er.inner, Er.tell, ErT.err]
      omega
    · intro h
      simp [told, Er.inner] at h
  | none =>
    refine ⟨.mk 5 false 0 ByteArray.empty [] (sortM l), none, by rw [membersD, hd]; rfl, by rw [membersE, hd]; rfl, ⟨by decide, by simp, by rw [sortM_len]; exact hl, trivial, okm_all' _ fun x hx => V.okm_mem hms (hmem x hx)⟩, by decide, fun _ hr => ?_⟩
    obtain ⟨t1, _⟩ := (V.mk 5 false 0 ByteArray.empty [] (sortM l)).told_chk 0
    have h5 : (V.mk 5 false 0 ByteArray.empty [] (sortM l)).chkP 0 = V.chkPM (sortM l) 1 none := by
      rw [V.chkP]
      simp
    have := chkPM_sorted (sortM l) none (sortM_sorted l) hd (fun x hx => by
      have := List.all_eq_true.1 hr x (hmem x hx)
      rw [rightB, Bool.and_eq_true, decide_eq_true_eq] at this
      exact ⟨this.1, (V.deep x.2 0 (by omega) (V.chkP_none this.2)).2.2 1 (by omega)⟩) (fun p hp => by cases hp)
    rcases this with h | ⟨e, h, h3⟩
    · left
      rw [← t1, h5, h]
      rfl
    · right
      rw [← t1, h5, h]
      exact h3
attribute [local simp] ErT.d
theorem few_le (l : List Mem) : LeGL [.agg [.i 5, .b false, .i 0, .s ByteArray.empty, .v (.slice none 0 0), .lst false 7 (l.map mD)], .i 300] [.agg (V.mk 5 false 0 ByteArray.empty [] l).d, .i 300] := by
  rw [V.d, V.ds_map, V.dm_map]
  exact .cons (.agg (.cons (.refl _) (.cons (.refl _) (.cons (.refl _) (.cons (.refl _) (.cons (nilLe 6) (.cons (.refl _) .nil))))))) (.cons (.refl _) .nil)
/-- Whether the first k members are right. -/
def rightK (l : List Mem) (k : Nat) : Bool := (l.take k).all rightB
theorem rightK_succ (l : List Mem) (k : Nat) (h : k < l.length) : rightK l (k + 1) = (rightK l k && rightB l[k]) := by
  rw [rightK, List.take_succ_eq_append_getElem h, List.all_append, rightK]
  simp
@[local simp] theorem mD_tail (x : Mem) : (mD x).tail = x.2.d := rfl
set_option maxHeartbeats 8000000 in
theorem valueMembersT (l : List Mem) (ho : l.length * 104 ≤ 140737488351232 ∧ V.okm l) (σ : St) : Tri Tryd.prog 4 [.lst false 7 (l.map mD)] σ fun d τ => d = .b true ∧ τ = σ := by
  obtain ⟨hl, hms⟩ := ho
  have AW := Lib.hid awakeT
  have FW := Lib.hid (fun σ => (fewT (.mk 5 false 0 ByteArray.empty [] l) 300 σ ⟨by decide, by simp, hl, trivial, hms⟩).argsG (few_le l))
  have RL := Lib.hid (fun (k : Nat) (h : k < l.length) (σ : St) => realT l[k].2 σ (V.okm_mem hms (List.getElem_mem h)).2)
  have CK := Lib.hid (fun (k : Nat) (h : k < l.length) (σ : St) => checkRT l[k].2 σ (V.okm_mem hms (List.getElem_mem h)).2)
  have UT := Lib.hid (fun (k : Nat) (h : k < l.length) => utf8T l[k].1 (by have := (V.okm_mem hms (List.getElem_mem h)).1; omega))
  have ME := Lib.hid (fun σ => membersRT l σ hl hms)
  have MP := Lib.hid (fun (d : D) (h : D.Le d (.lst false 7 (l.map mD))) (σ : St) => (membersPT l σ hl hms).argsG (.cons (LeG.of h) .nil))
  obtain ⟨v, er, q1, q2, hv, hpe, hend⟩ := members_out l hl hms
  rw [q1] at MP
  rw [q2] at ME
  have IS := Lib.hid (fun σ => isT v v hv hv σ)
  rw [V.same_self] at IS
  have CP := Lib.hid (fun σ => checkPT v σ hv)
  have TL := Lib.hid (fun σ => tellOT (v.chkP 0) σ (told_size v hv))
  rw [(v.told_chk 0).1] at TL
  have TE := Lib.hid (fun σ => tellOT er σ hpe)
  obtain ⟨et, het⟩ : ∃ et, et = told er := ⟨_, rfl⟩
  have EQ := Lib.hid (eqE_t et)
  obtain ⟨dv, hdv⟩ : ∃ dv, dv = v.d := ⟨_, rfl⟩
  have hd6 : dv.length = 6 := hdv ▸ V.d_len v
  have ht6 : dv.take 6 = dv := List.take_of_length_le (by omega)
  have hp6 : dv.drop 6 = [] := List.drop_eq_nil_of_le (by omega)
  obtain ⟨ec, hec⟩ : ∃ ec, ec = v.chk 0 := ⟨_, rfl⟩
  obtain ⟨dp, hdp⟩ : ∃ dp, dp = erD (v.chkP 0) := ⟨_, rfl⟩
  obtain ⟨de, hde⟩ : ∃ de, de = erD er := ⟨_, rfl⟩
  rw [← het] at ME TE hend
  rw [← hdv] at ME MP IS CP
  rw [← hec] at TL hend
  rw [← hdp] at CP TL
  rw [← hde] at MP TE
  replace hend := Lib.hid hend
  clear q1 q2 hv hpe hdv hec hdp hde het hms
  refine tri_fn Tryd.func4 rfl Tryd.ntmps4 Tryd.results4 (Nat.le_of_ble_eq_true rfl) ?_
  cases hf : (V.mk 5 false 0 ByteArray.empty [] l).few 300 with
  | false =>
    rw [hf] at FW
    refine' wlk2 AW.out FW.out
    ((try simp [*]); (try simp (discharger := omega) only [wrap_i64, dec_t, dec_f]))
    exact .mk _ σ (.refl _) leT ⟨rfl, rfl⟩
  | true =>
    rw [hf] at FW
    refine' wlk2 AW.out FW.out
    clear FW AW
    refine awp_loopM [3, 4, 6, 25, 26, 27, 28, 29, 30, 31, 32, 33, 34, 35, 36, 37, 38, 39, 40, 41, 42, 43, 44, 45, 46, 47, 48, 49, 50, 51] (fun X τ => ∃ (k : Nat) (dl : D), k ≤ l.length ∧ X 25 = .i k ∧ X 3 = dl ∧ X 4 = .b (rightK l k) ∧ GrowT σ 45 7 ((l.map mD).take k) dl τ) (fun X _ => l.length - (X 25).int.toNat) ?_ ?_
    · refine .same ⟨mix_self _ _, 0, _, by omega, ?_, rfl, ?_, ?_⟩
      · simp [*]
      · simp [*, rightK]
      · simpa [*] using GrowT.start _ _ _
    · rintro X τ ⟨k, dl, hk, h25, h3, h4, hg⟩ _ hL
      by_cases hlt : k < l.length
      · have RK := Lib.hid (RL.out k hlt)
        have CC := Lib.hid (CK.out k hlt)
        have UU := Lib.hid (UT.out k hlt)
        have HRK := Lib.hid (rightK_succ l k hlt)
        rcases hg.cases_take hlt with ⟨rfl, rfl, rfl⟩ | ⟨bt, cap, g1, g2, rfl, rfl⟩
        · cases hrk : rightK l 0 with
          | false =>
            refine' wlk0
            (refine awp_draw (fun KS EG hK hP => ?_); refine draw_rule rfl [(0, true), (1, true), (2, false), (3, true), (4, false), (5, false), (6, true), (7, true)] [] [8, 9] (by kernel_rfl) ?_; refine' dqs1 RK.out)
            refine' wlk0
            refine hL.out _ _ (.less (τ.set b (some (.tip 45 7 _ (0 + 1)))) leT (.same ⟨mixT, ⟨0 + 1, _, by omega, ?_, ?_, ?_, GrowT.take0 hlt b _ (by assumption)⟩, ?_⟩))
            · simp [*]
            · simp [*, mD]
            · have := HRK.out
              simp [*, rightB]
            · simp [*, D.int]; omega
          | true =>
            cases hu : utf8B l[0].1 with
            | false =>
              rw [hu] at UU
              refine' wlk0
              (refine awp_draw (fun KS EG hK hP => ?_); refine draw_rule rfl [(0, true), (1, true), (2, false), (3, true), (4, false), (5, false), (6, true), (7, true)] [] [8, 9] (by kernel_rfl) ?_; refine' dqs1 RK.out)
              refine' wlk1 UU.out
              refine hL.out _ _ (.less (τ.set b (some (.tip 45 7 _ (0 + 1)))) leT (.same ⟨mixT, ⟨0 + 1, _, by omega, ?_, ?_, ?_, GrowT.take0 hlt b _ (by assumption)⟩, ?_⟩))
              · simp [*]
              · simp [*, mD]
              · have := HRK.out
                simp [*, rightB]
              · simp [*, D.int]; omega
            | true =>
              rw [hu] at UU
              by_cases hc : (l[0].2.chk 0).code = 0
              · refine' wlk0
                (refine awp_draw (fun KS EG hK hP => ?_); refine draw_rule rfl [(0, true), (1, true), (2, false), (3, true), (4, false), (5, false), (6, true), (7, true)] [] [8, 9] (by kernel_rfl) ?_; refine' dqs1 RK.out)
                refine' wlk2 UU.out CC.out
                refine hL.out _ _ (.less (τ.set b (some (.tip 45 7 _ (0 + 1)))) leT (.same ⟨mixT, ⟨0 + 1, _, by omega, ?_, ?_, ?_, GrowT.take0 hlt b _ (by assumption)⟩, ?_⟩))
                · simp [*]
                · simp [*, mD]
                · have := HRK.out
                  simp [*, rightB]
                · simp [*, D.int]; omega
              · refine' wlk0
                (refine awp_draw (fun KS EG hK hP => ?_); refine draw_rule rfl [(0, true), (1, true), (2, false), (3, true), (4, false), (5, false), (6, true), (7, true)] [] [8, 9] (by kernel_rfl) ?_; refine' dqs1 RK.out)
                refine' wlk2 UU.out CC.out
                refine hL.out _ _ (.less (τ.set b (some (.tip 45 7 _ (0 + 1)))) leT (.same ⟨mixT, ⟨0 + 1, _, by omega, ?_, ?_, ?_, GrowT.take0 hlt b _ (by assumption)⟩, ?_⟩))
                · simp [*]
                · simp [*, mD]
                · have := HRK.out
                  simp [*, rightB]
                · simp [*, D.int]; omega
        · clear hg
          have hmin : min k l.length = k := by omega
          cases hrk : rightK l k with
          | false =>
            refine' wlk0
            (refine awp_draw (fun KS EG hK hP => ?_); refine draw_rule rfl [(0, true), (1, true), (2, false), (3, true), (4, false), (5, false), (6, true), (7, true)] [] [8, 9] (by kernel_rfl) ?_; refine' dqs1 RK.out)
            refine' wlk0
            refine hL.out _ _ (.less (σ.set b (some (.tip 45 7 _ (k + 1)))) leT (.same ⟨mixT, ⟨k + 1, _, by omega, ?_, ?_, ?_, GrowT.take hlt b _ (by assumption)⟩, ?_⟩))
            · simp [*]
            · simp [*, mD]
            · have := HRK.out
              simp [*, rightB]
            · simp [*, D.int]; omega
          | true =>
            cases hu : utf8B l[k].1 with
            | false =>
              rw [hu] at UU
              refine' wlk0
              (refine awp_draw (fun KS EG hK hP => ?_); refine draw_rule rfl [(0, true), (1, true), (2, false), (3, true), (4, false), (5, false), (6, true), (7, true)] [] [8, 9] (by kernel_rfl) ?_; refine' dqs1 RK.out)
              refine' wlk1 UU.out
              refine hL.out _ _ (.less (σ.set b (some (.tip 45 7 _ (k + 1)))) leT (.same ⟨mixT, ⟨k + 1, _, by omega, ?_, ?_, ?_, GrowT.take hlt b _ (by assumption)⟩, ?_⟩))
              · simp [*]
              · simp [*, mD]
              · have := HRK.out
                simp [*, rightB]
              · simp [*, D.int]; omega
            | true =>
              rw [hu] at UU
              by_cases hc : (l[k].2.chk 0).code = 0
              · refine' wlk0
                (refine awp_draw (fun KS EG hK hP => ?_); refine draw_rule rfl [(0, true), (1, true), (2, false), (3, true), (4, false), (5, false), (6, true), (7, true)] [] [8, 9] (by kernel_rfl) ?_; refine' dqs1 RK.out)
                refine' wlk2 UU.out CC.out
                refine hL.out _ _ (.less (σ.set b (some (.tip 45 7 _ (k + 1)))) leT (.same ⟨mixT, ⟨k + 1, _, by omega, ?_, ?_, ?_, GrowT.take hlt b _ (by assumption)⟩, ?_⟩))
                · simp [*]
                · simp [*, mD]
                · have := HRK.out
                  simp [*, rightB]
                · simp [*, D.int]; omega
              · refine' wlk0
                (refine awp_draw (fun KS EG hK hP => ?_); refine draw_rule rfl [(0, true), (1, true), (2, false), (3, true), (4, false), (5, false), (6, true), (7, true)] [] [8, 9] (by kernel_rfl) ?_; refine' dqs1 RK.out)
                refine' wlk2 UU.out CC.out
                refine hL.out _ _ (.less (σ.set b (some (.tip 45 7 _ (k + 1)))) leT (.same ⟨mixT, ⟨k + 1, _, by omega, ?_, ?_, ?_, GrowT.take hlt b _ (by assumption)⟩, ?_⟩))
                · simp [*]
                · simp [*, mD]
                · have := HRK.out
                  simp [*, rightB]
                · simp [*, D.int]; omega
      · have hke : k = l.length := by omega
        replace hg := hg.done hke
        rw [hke, show rightK l l.length = l.all rightB by rw [rightK, List.take_length]] at h4
        rw [hke] at h25
        obtain ⟨rb, hrb⟩ : ∃ rb, rb = l.all rightB := ⟨_, rfl⟩
        rw [← hrb] at h4 hend
        have MQ := Lib.hid (MP.out dl hg.le.1)
        have HLS := Lib.hid hg.le.1
        have HL0 := Lib.hid hg.le.2
        clear hke hlt hk hg hL RL CK UT MP hrb
        refine' wlk2 MQ.out ME.out
        (refine awp_draw (fun KS EG hK hP => ?_); refine draw_rule rfl [(0, true), (1, false), (2, false), (3, true), (4, true), (5, false), (6, false), (7, false), (8, true), (9, true)] [] [] (by kernel_rfl) ?_; repeat (first | ((first | refine dq_pu rfl ?_ | refine dq_rd rfl ?_ | (refine dq_gTp rfl rfl ?_ ?_; (focus (simp [*]; done))) | (refine dq_gTr rfl rfl ?_ ?_; (focus (simp [*]; done)))); constructor; refine And.intro (fun _ _ hO => ?_) ?_; (focus (simp [*]; (try simp (discharger := omega) only [wrap_i64, dec_t, dec_f]); (first | ((try (first | refine .inl ⟨?_, by omega, by omega⟩ | refine ⟨by omega, by omega, ?_⟩ | refine ⟨by omega, ?_⟩ | refine .inl ?_)); exact hO.out _ _ (.refl _) (St.le_refl _)) | ((first | refine Tri.call (TE.out _) ?_ | refine Tri.call (IS.out _) ?_ | refine Tri.call (EQ.out) ?_); rintro _ _ ⟨rfl, h9⟩; replace h9 := h9.symm; subst h9; exact hO.out _ _ (.refl _) (St.le_refl _)) | exact .inr ⟨(TE.out _), hO.out _ _ (.refl _) (St.le_refl _)⟩ | exact .inl ⟨(TE.out _), hO.out _ _ (.refl _) (St.le_refl _)⟩ | exact ⟨_, (TE.out _), hO.out _ _ (.refl _) (St.le_refl _)⟩ | exact .inr ⟨(IS.out _), hO.out _ _ (.refl _) (St.le_refl _)⟩ | exact .inl ⟨(IS.out _), hO.out _ _ (.refl _) (St.le_refl _)⟩ | exact ⟨_, (IS.out _), hO.out _ _ (.refl _) (St.le_refl _)⟩ | exact .inr ⟨(EQ.out), hO.out _ _ (.refl _) (St.le_refl _)⟩ | exact .inl ⟨(EQ.out), hO.out _ _ (.refl _) (St.le_refl _)⟩ | exact ⟨_, (EQ.out), hO.out _ _ (.refl _) (St.le_refl _)⟩))); (first | refine aput_some (by decide) ?_ | refine aput_none ?_)) | ((first | (refine dq_gF rfl rfl ?_ ?_; (focus (simp [*]; done))) | (refine dq_gU rfl rfl ?_ ?_; (focus (simp [*]; done)))); (first | refine aput_some (by decide) ?_ | refine aput_none ?_)) | refine dq_nil ?_ | refine dtail_none ?_ | refine dtail_some ?_ | refine dals_alloc rfl (by decide) (by simp; rfl) ?_ | refine dals_box rfl (by decide) (by simp [*]; rfl) ?_  | (refine dals_arrO rfl (by decide) (by first | rfl | simp) (by simp) (by intro σ'; simp [*]; exact TE.out _ σ') (by first | assumption | simp) ?_) | (refine dals_arrO rfl (by decide) (by first | rfl | simp) (by simp) (by intro σ'; simp [*]; exact IS.out _ σ') (by first | assumption | simp) ?_) | (refine dals_arrO rfl (by decide) (by first | rfl | simp) (by simp) (by intro σ'; simp [*]; exact EQ.out σ') (by first | assumption | simp) ?_) | refine dals_nil ?_ | refine dfin_nil ?_ | (refine dfin_cons rfl ?_; simp only [fresh_set, ne_eq, and_assoc]; intro b8 c8 hf8 hc8; (try subst hc8); (repeat (obtain ⟨_, hf8⟩ := hf8))) | (refine aops_idx rfl (fun K9 hO => ?_); simp [*]; (try simp (discharger := omega) only [wrap_i64, dec_t, dec_f]); (first | ((try (first | refine .inl ⟨by omega, by omega, ?_⟩ | refine ⟨by omega, by omega, ?_⟩ | refine ⟨by omega, ?_⟩ | refine .inl ?_)); (first | (intro b; intros; refine hO.out _ _ ?_) | refine hO.out _ _ ?_)) | ((first | refine Tri.call (TE.out _) ?_ | refine Tri.call (IS.out _) ?_ | refine Tri.call (EQ.out) ?_); (first | rintro _ _ ⟨rfl, h9⟩; replace h9 := h9.symm; subst h9 | rintro _ _ ⟨_, rfl, rfl⟩ | rintro _ _ ⟨_, _, rfl, rfl⟩ | rintro _ _ ⟨_, _, _, rfl, rfl⟩); refine hO.out _ _ ?_)); clear hO; (try clear K9); (first | refine aput_some (by decide) ?_ | refine aput_none ?_)) | refine aops_end ?_ | ((repeat ((fail_if_success (refine hK.out _ _ ?_)); clear hK; (try clear hP EG); (try clear KS))); refine hK.out _ _ ?_; clear hK; (try clear hP EG); try clear KS)))
        refine' wlk0
        rename_i b7 _ b9 _ _ _ _ _ _ _ _
        refine awp_gen ?_
        intro σ2 hσ2
        have o7 : σ2.own b7 = some (.box 38 dv) := by
          rw [hσ2]
          simp [*]
        have o10 : σ2.own b = some (.box 29 et.d) := by
          rw [hσ2]
          simp [*]
        have HLE2 := Lib.hid (show σ.le σ2 by rw [hσ2]; exact leT)
        clear hσ2
        refine awp_loopM (3 :: [2, 11, 12, 74, 75, 76, 77, 78, 79, 80, 81, 82, 83, 84, 85, 86, 87]) (fun Y τ' => ∃ k : Nat, k ≤ l.length ∧ Y 74 = .i k ∧ Y 3 = .lst false 7 (l.map mD) ∧ τ' = σ2) (fun Y _ => l.length - (Y 74).int.toNat) ?_ ?_
        · exact .slot 3 (.lst false 7 (l.map mD)) (by simp [*]; exact HLS.out) (.same ⟨mixT, 0, Nat.zero_le _, by simp [*], by simp, rfl⟩)
        · rintro Y τ' ⟨k, hk, h74, h3', rfl⟩ _ hL
          by_cases hlt : k < l.length
          · refine' wlk0
            (refine awp_draw (fun KS EG hK hP => ?_); refine draw_rule rfl [(0, true), (1, true), (2, true), (3, true), (4, false), (5, true), (6, false), (7, true)] [] [] (by kernel_rfl) ?_; refine' dqs0)
            refine' wlk0
            refine hL.out _ _ (.less τ' leT (.same ⟨mixT, ⟨k + 1, by omega, ?_, ?_, rfl⟩, ?_⟩))
            · simp [*]
            · simp [*]
            · simp [*, D.int]; omega
          · have hke : k = l.length := by omega
            rw [hke] at h74
            clear hke hlt hk
            have hz := hend.out
            by_cases e0 : et.code = 0
            · cases rb with
              | true =>
                rcases hz e0 rfl with c0 | c3
                · refine' wlk2 CP.out TL.out
                  ((try simp [*]); (try simp (discharger := omega) only [wrap_i64, dec_t, dec_f]))
                  exact .mk _ σ (.refl _) leT ⟨rfl, rfl⟩
                · refine' wlk2 CP.out TL.out
                  ((try simp [*]); (try simp (discharger := omega) only [wrap_i64, dec_t, dec_f]))
                  exact .mk _ σ (.refl _) leT ⟨rfl, rfl⟩
              | false =>
                clear hz
                refine' wlk2 CP.out TL.out
                ((try simp [*]); (try simp (discharger := omega) only [wrap_i64, dec_t, dec_f]))
                exact .mk _ σ (.refl _) leT ⟨rfl, rfl⟩
            · clear hz
              refine' wlk2 CP.out TL.out
              ((try simp [*]); (try simp (discharger := omega) only [wrap_i64, dec_t, dec_f]))
              exact .mk _ σ (.refl _) leT ⟨rfl, rfl⟩
end Go.Proofs.YtmjendeigjdihaaDoor
/-
  The card of the law ValueMembers: it holds for every input.
-/
namespace Go.Proofs.YtmjendeigjdihaaDoor.valueMembers
open Go.ChangeShapes Go.WideShapes Go.ChangeAt Go.RowKit
set_option maxRecDepth 100000
set_option linter.unusedVariables false
set_option linter.unusedSimpArgs false

theorem laid_eq : Rows.valueMembersRow.laid = Rows.valueChecksRow.laid := rfl
theorem reads (os : Os) {H : Type} (enc : TypeId × Value → H) : ∃ places, DataW.whole enc Tryd.prog ((laidWorld os).forCall (fun _ _ => 0) ⟨#[], #[.slice none 0 0], []⟩).memory Tryd.f4.params.toList Rows.valueMembersSpec.vars false #[.slice none 0 0].toList 8 = some ([.nil], [], places) :=
  ⟨[], by kernel_rfl⟩
theorem contract (H : Type) (enc : TypeId × Value → H) (W : World) (base : Nat) (args : Array Value) (ds gs : List (DataW H)) (before : List MemPlace)
    (hval0 : ∀ (j : Nat) t v, Tryd.f4.params[j]? = some t → args[j]? = some v → Value.okWide Tryd.prog W .any base t v)
    (hW : DataW.Whole enc Tryd.prog Tryd.f4.params.toList Rows.valueMembersSpec.vars false W args.toList ds gs before)
    (hreach : (DataW.weightsEach Tryd.prog (Tryd.f4.params.toList ++ (OpenSpec.ofChange Rows.valueMembersSpec).bare.plain.varTypes Tryd.prog) (ds ++ gs)).all (· ≤ reachBytes) = true)
    (hLM : laidMetH Tryd.prog Rows.valueMembersRow.laid W) (hsh : W.ShapedOpen Tryd.prog) :
    Calls Tryd.prog 4 args W fun e W' => ∃ v, e = .returned v ∧ Rows.valueMembersSpec.post enc Tryd.prog Tryd.f4 false true false false W args v W' := by
  have hval : ∀ (j : Nat) t v, Tryd.f4.params[j]? = some t → args[j]? = some v → Value.okWide Tryd.prog W .any base t v := hval0
  have hW' := hW
  have hlt := hW.lt
  obtain ⟨p, q, hA0, hV, rfl, hfz, hnd⟩ := hW
  have hA : DataW.TrodAll enc Tryd.prog W 0 (fun _ => true) true Tryd.f4.params.toList args.toList ds p := hA0
  rw [Tryd.params4] at hA hval
  obtain ⟨v0, vs0, d0, ds0, p0, q0, hargs, rfl, rfl, h0, r0⟩ := trodAll_cons hA
  obtain ⟨rfl, rfl, rfl⟩ := trodAll_nil r0
  obtain rfl : args = #[v0] := by cases args; simp_all
  obtain ⟨rfl, rfl⟩ := trodVars_none hV
  obtain ⟨a0, o0, R0⟩ := argMs (hval 0 23 v0 rfl rfl) h0 (reached_arg hreach (j := 0) rfl rfl)
  have C := valueMembersT a0 o0 .none W W (Gh.of W) _ (Sim.start W (baseOk_of hsh hLM)) ((RepL.nil _).cons R0)
  clear hA0 hval0
  refine C.mono fun e W' ⟨σ', G', _, hS, h4⟩ => ?_
  obtain ⟨v, d, he, hr, hd, _⟩ | ⟨_, _, hd⟩ := h4
  case inr => exact hd.elim
  subst hd
  obtain rfl : v = .bool true := hr.v_inv
  subst he
  have hg : Below W.heap.size W W' := hS.below
  have hin0 : ∀ p ∈ p0, p.block < W.heap.size := fun p hp => hlt p (by simp [hp])
  exact ⟨_, rfl, post_of_below (pv := []) hW' (fun _ _ _ => (trodAll_cons_mk (shut_bool Tryd.underlying4 _) trodAll_mk0))
    (fun sp hsp => (trodAll_cons_mk (WideElems.Trod_stays laidOut (by kernel_rfl) (of_decide_eq_true (by kernel_rfl)) h0 (fun p hp => below_sameAt hg (hin0 p hp)) (fun p hp => hsp p (by simp [hp]))) trodAll_mk0)) (fun _ _ => rfl) rfl
    hg (ok_one (by kernel_rfl) rfl (okWide_bool_mk Tryd.underlying4 _))⟩

theorem lifted (os : Os) (started : os.Started) (H : Type) (enc : TypeId × Value → H) (F : Stop.Interp) :
    ReturnsInHanded {} Tryd.checked os 4 .any ((OpenSpec.ofChange Rows.valueMembersSpec).preRow enc Tryd.prog Tryd.f4 Rows.valueMembersRow.domain false Rows.valueMembersRow.laid) (((OpenSpec.ofChange Rows.valueMembersSpec).at F).post enc Tryd.prog Tryd.f4 false true false false) := by
  obtain ⟨places, hx⟩ := reads os enc
  refine returnsInHanded_of_row (C := Tryd.checked) (s := OpenSpec.ofChange Rows.valueMembersSpec) own started (by kernel_rfl) Tryd.func4
    (witness_row_at (enc := enc) (C := Tryd.checked) false (laidWorld os) #[.slice none 0 0] rfl (by kernel_rfl) (by kernel_rfl) (by kernel_rfl)
      (OpenSpec.preRow_of_cond 8 hx (by kernel_rfl) (fun k hk => by cases hk) (by kernel_rfl) (laid_met os _))) ?_
  intro W base args ds gs before hval hW _ _ hreach hL hsh _
  exact contract H enc W base args ds gs before hval hW hreach hL hsh

theorem said : Rows.ValueMembersSaid :=
  OpenClaim.holds_of_cond 4 Tryd.f4 rfl rfl rfl rfl rfl rfl rfl ⟨rfl, rfl, rfl, rfl, rfl⟩ rfl rfl rfl rfl rfl (by kernel_rfl) Tryd.func4 (by kernel_rfl)
    (of_decide_eq_true (by kernel_rfl)) (by unfold Func.isWrapper; first | (rw [if_pos (by decide +kernel)]; kernel_rfl) | (rw [if_neg (by decide +kernel)]; exact ⟨rfl, rfl⟩))
    (fun os started H enc _ F => by rw [OpenClaim.pre_eq_preRow]; exact lifted os started H enc F)

theorem plain (f : FuncId) (fn : Func) (hf : Tryd.pinned.checked.prog.funcNamed "enfilade/enfiladelaw01.ValueMembers" = some f) (hfn : Tryd.pinned.checked.prog.funcs[f]? = some fn) :
    true = Tryd.pinned.checked.prog.looks [] ∧ ∀ (j : Nat) t, fn.params[j]? = some t → Tryd.pinned.checked.prog.wantsStandIn t = false := by
  obtain rfl : f = 4 := Option.some.inj ((show Tryd.prog.funcNamed "enfilade/enfiladelaw01.ValueMembers" = some 4 by kernel_rfl).symm.trans hf) |>.symm
  obtain rfl : fn = Tryd.f4 := (Option.some.inj (Tryd.func4.symm.trans hfn)).symm
  refine ⟨by kernel_rfl, fun j t ht => ?_⟩
  rw [Tryd.params4] at ht
  have h2 : t = 23 := by simpa using Array.mem_of_getElem? ht
  subst h2
  exact (show Tryd.prog.wantsStandIn 23 = false by kernel_rfl)

theorem proved : Rows.ValueMembersCardSaid :=
  Claim7.holds_tied_plain_at .later [] _ _ _ _ said (fun _ h => by cases h) (by kernel_rfl) (fun _ h => by cases h) valueMembers_row_tie rfl ⟨rfl, rfl⟩ (by kernel_rfl) rfl plain (by kernel_rfl)
#print axioms proved
end Go.Proofs.YtmjendeigjdihaaDoor.valueMembers
