/- Part 7 of the proof of CardSearchFinds: RefFits ConvT Lib V9 RefFind Is21 ErrIs ErrAs ErrAsFault Chain. -/
import Derived.Test.YtmpbofmhjjgccaaDoorSf6
import Derived.Lib.IndexMore
import Derived.Test.YtmpbofmhjjgccaaDoorSf5
import Derived.Test.YtmpbofmhjjgccaaDoorShelf
import Derived.Lib.AppendIntMem
import Derived.Test.YtmpbofmhjjgccaaDoorRows
import Derived.WalkKit
import Derived.LaidEql
import Derived.Stop.Asserts
import Derived.RowKitTokens
import Derived.Lib.Hide
import Derived.Test.YtmpbofmhjjgccaaDoorSf1
/-
  The document's 'stands', and 'Fits'.
-/
namespace Go.Proofs.YtmpbofmhjjgccaaDoor
open Go.RowKit
set_option maxRecDepth 100000
set_option linter.unusedVariables false
set_option linter.unusedSimpArgs false
attribute [local irreducible] awp aops aop aput aseq ablock TriX Tri Ret Fresh dq adraw dtail dals dfin Wk
attribute [local simp] SVd

theorem contains_of_occ {s t : List UInt8} {i : Nat} (h : Lib.occAt s t i = true) (hi : i ≤ s.length) : Lib.contains s t = true := by
  unfold Lib.contains
  rw [decide_eq_true_eq]
  rcases Int.lt_or_le (Lib.index s t) 0 with h0 | h0
  · exfalso
    have hx : ∃ j, j ≤ s.length ∧ Lib.occAt s t j = true ∧ ∀ k, k < j → Lib.occAt s t k = false := by
      clear h0
      induction i using Nat.strongRecOn with
      | _ i ih =>
        by_cases hk : ∃ k, k < i ∧ Lib.occAt s t k = true
        · obtain ⟨k, h1, h2⟩ := hk
          exact ih k h1 h2 (by omega)
        · refine ⟨i, hi, h, fun k hk' => ?_⟩
          cases hc : Lib.occAt s t k with
          | false => rfl
          | true => exact absurd ⟨k, hk', hc⟩ hk
    obtain ⟨j, h1, h2, h3⟩ := hx
    rw [Lib.index_first h1 h2 h3] at h0
    omega
  · exact h0
theorem contains_none {s t : List UInt8} (h : ∀ j, j ≤ s.length → Lib.occAt s t j = false) : Lib.contains s t = false := by
  unfold Lib.contains
  rw [Lib.index_none h]
  rfl
/-- Do k bytes of a, folded, stand in b at i? -/
def eqk (a b : ByteArray) (i k : Nat) : Bool := decide ((a.data.toList.map foldB).take k = ((b.data.toList.map foldB).drop i).take k)
theorem eqk_succ (a b : ByteArray) (i k : Nat) (hk : k < a.size) (hi : i + a.size ≤ b.size) : eqk a b i (k + 1) = (eqk a b i k && decide (foldB (a.data.toList.getD k 0) = foldB (b.data.toList.getD (i + k) 0))) := by
  have ha : a.data.toList.length = a.size := by simp
  have hb : b.data.toList.length = b.size := by simp
  unfold eqk
  rw [List.take_succ_eq_append_getElem (by simpa using hk), List.take_succ_eq_append_getElem (by simp; omega)]
  have h1 : (a.data.toList.map foldB)[k]'(by simpa using hk) = foldB (a.data.toList.getD k 0) := by
    rw [List.getD_eq_getElem?_getD, List.getElem?_eq_getElem (by rw [ha]; exact hk)]; simp
  have h2 : ((b.data.toList.map foldB).drop i)[k]'(by simp; omega) = foldB (b.data.toList.getD (i + k) 0) := by
    rw [List.getElem_drop, List.getD_eq_getElem?_getD, List.getElem?_eq_getElem (by rw [hb]; omega)]; simp
  rw [h1, h2, Bool.eq_iff_iff, Bool.and_eq_true, decide_eq_true_eq, decide_eq_true_eq, decide_eq_true_eq]
  constructor
  · intro h
    have := List.append_inj' h rfl
    exact ⟨this.1, by simpa using this.2⟩
  · rintro ⟨h3, h4⟩
    rw [h3, h4]
theorem eqk_all (a b : ByteArray) (i : Nat) : eqk a b i a.size = Lib.occAt (foldS b).data.toList (foldS a).data.toList i := by
  unfold eqk Lib.occAt foldS
  rw [List.take_of_length_le (by simp), Bool.eq_iff_iff, decide_eq_true_eq, List.isPrefixOf_iff_prefix, List.prefix_iff_eq_take]
  simp
theorem occ_long (a b : ByteArray) (i : Nat) (h : b.size < i + a.size) : (∀ j, i ≤ j → a.size ≠ 0 → Lib.occAt (foldS b).data.toList (foldS a).data.toList j = false) := by
  intro j hj h0
  rw [← eqk_all]
  unfold eqk
  rw [decide_eq_false_iff_not]
  intro e
  have := congrArg List.length e
  have hb : b.data.toList.length = b.size := by simp
  simp at this
  omega

set_option maxHeartbeats 4000000 in
theorem refStandsT (a b : ByteArray) (σ : St) (ha : a.size ≤ 1000000) (hb : b.size ≤ 1000000) : Tri Tryd.prog 28 [.s a, .s b] σ fun d τ => d = .b (standsB (foldS a) b) ∧ τ = σ := by
  refine tri_fn Tryd.func28 rfl Tryd.ntmps28 Tryd.results28 (Nat.le_of_ble_eq_true rfl) ?_
  refine' wlk0
  refine awp_loopM [4, 5, 6, 7, 8, 9, 10, 11, 12, 13, 14, 15, 16, 17, 18, 19, 20, 21, 22, 23, 24, 25, 26, 27, 28, 29, 30, 31, 32, 33, 34, 35, 36, 37] (fun X τ => ∃ i : Nat, i ≤ b.size + 1 ∧ X 5 = .i i ∧ Hid (∀ j, j < i → Lib.occAt (foldS b).data.toList (foldS a).data.toList j = false) ∧ τ = σ) (fun X _ => b.size + 2 - (X 5).int.toNat) ?_ ?_
  · refine .same ⟨mix_self _ _, 0, by omega, ?_, Lib.hid (by intro j hj; omega), rfl⟩
    simp
  · rintro X τ ⟨i, hi, h5, hocc, rfl⟩ _ hL
    by_cases hlt : i + a.size ≤ b.size
    · have hlt' : (i : Int) + a.size ≤ b.size := by omega
      refine' wlk0
      refine awp_loopM [6, 7, 19, 20, 21, 22, 23, 24, 25, 26, 27, 28, 29, 30, 31, 32, 33, 34, 35, 36] (fun Y τ2 => ∃ k : Nat, k ≤ a.size ∧ Y 6 = .b (eqk a b i k) ∧ Y 19 = .i k ∧ τ2 = τ) (fun Y _ => a.size + 1 - (Y 19).int.toNat) ?_ ?_
      · refine .same ⟨mix_self _ _, 0, by omega, ?_, ?_, rfl⟩
        · simp [eqk]
        · simp
      · rintro Y τ2 ⟨k, hk, g6, g19, rfl⟩ _ hL2
        by_cases hka : k < a.size
        · have hs := eqk_succ a b i k hka hlt
          have HSUC := Lib.hid hs
          clear hs
          cases hq : eqk a b i k with
          | true =>
            rw [hq] at g6
            have HQ := Lib.hid hq
            clear hq
            have hik : i + k < b.size := by omega
            have hik0 : (0:Int) ≤ (i:Int) + k := by omega
            have hik1 : (i:Int) + k < b.size := by omega
            have hik2 : ((i:Int) + k).toNat = i + k := by omega
            refine' wlk0
            (refine awp_draw (fun KS EG hK hP => ?_); refine draw_rule rfl [(0, true), (1, true), (2, true), (3, true), (4, true), (5, false), (6, true), (7, true), (8, true), (9, true), (10, true), (11, false), (12, true), (13, true), (14, true)] [] [] (by kernel_rfl) ?_; repeat (first | ((first | refine dq_pu rfl ?_ | refine dq_rd rfl ?_ | (refine dq_gTp rfl rfl ?_ ?_; (focus (simp [*]; done))) | (refine dq_gTr rfl rfl ?_ ?_; (focus (simp [*]; done)))); constructor; refine And.intro (fun _ _ hO => ?_) ?_; (focus (simp [*]; (try simp (discharger := omega) only [wrap_i64, dec_t, dec_f]); (first | ((try (first | refine .inl ⟨?_, by omega, by omega⟩ | refine ⟨by omega, by omega, ?_⟩ | refine ⟨by omega, ?_⟩ | refine .inl ?_)); exact hO.out _ _ (.refl _) (St.le_refl _)) | ((first | refine Tri.call (foldT _ _) ?_); rintro _ _ ⟨rfl, h9⟩; replace h9 := h9.symm; subst h9; exact hO.out _ _ (.refl _) (St.le_refl _)) | exact .inr ⟨(foldT _ _), hO.out _ _ (.refl _) (St.le_refl _)⟩ | exact .inl ⟨(foldT _ _), hO.out _ _ (.refl _) (St.le_refl _)⟩ | exact ⟨_, (foldT _ _), hO.out _ _ (.refl _) (St.le_refl _)⟩))); (first | refine aput_some (by decide) ?_ | refine aput_none ?_)) | ((first | (refine dq_gF rfl rfl ?_ ?_; (focus (simp [*]; done))) | (refine dq_gU rfl rfl ?_ ?_; (focus (simp [*]; done)))); (first | refine aput_some (by decide) ?_ | refine aput_none ?_)) | refine dq_nil ?_ | refine dtail_none ?_ | refine dtail_some ?_ | refine dals_alloc rfl (by decide) (by simp; rfl) ?_ | refine dals_box rfl (by decide) (by simp [*]; rfl) ?_  | (refine dals_arrO rfl (by decide) (by first | rfl | simp) (by simp) (by intro σ'; simp [*]; exact foldT _ _ σ') (by first | assumption | simp) ?_) | refine dals_nil ?_ | refine dfin_nil ?_ | (refine dfin_cons rfl ?_; simp only [fresh_set, ne_eq, and_assoc]; intro b8 c8 hf8 hc8; (try subst hc8); (repeat (obtain ⟨_, hf8⟩ := hf8))) | (refine aops_idx rfl (fun K9 hO => ?_); simp [*]; (try simp (discharger := omega) only [wrap_i64, dec_t, dec_f]); (first | ((try (first | refine .inl ⟨by omega, by omega, ?_⟩ | refine ⟨by omega, by omega, ?_⟩ | refine ⟨by omega, ?_⟩ | refine .inl ?_)); (first | (intro b; intros; refine hO.out _ _ ?_) | refine hO.out _ _ ?_)) | ((first | refine Tri.call (foldT _ _) ?_); (first | rintro _ _ ⟨rfl, h9⟩; replace h9 := h9.symm; subst h9 | rintro _ _ ⟨_, rfl, rfl⟩ | rintro _ _ ⟨_, _, rfl, rfl⟩ | rintro _ _ ⟨_, _, _, rfl, rfl⟩); refine hO.out _ _ ?_)); clear hO; (try clear K9); (first | refine aput_some (by decide) ?_ | refine aput_none ?_)) | refine aops_end ?_ | ((repeat ((fail_if_success (refine hK.out _ _ ?_)); clear hK; (try clear hP EG); (try clear KS))); refine hK.out _ _ ?_; clear hK; (try clear hP EG); try clear KS)))
            refine' wlk0
            refine hL2.out _ _ (.same ⟨mixT, ⟨k + 1, by omega, ?_, ?_, rfl⟩, ?_⟩)
            · have := Hid.out HSUC
              rw [this, Hid.out HQ, Bool.true_and]
              simp [*]
              exact ⟨fun h => by apply UInt8.toNat.inj; omega, fun h => by rw [h]⟩
            · simp [*]
            · simp [*, D.int]
              omega
          | false =>
            rw [hq] at g6
            have HQ := Lib.hid hq
            clear hq
            refine' wlk0
            (refine awp_draw (fun KS EG hK hP => ?_); refine draw_rule rfl [(0, true), (1, true), (2, true), (3, true), (4, true), (5, false), (6, true), (7, true), (8, true), (9, true), (10, true), (11, false), (12, true), (13, true), (14, true)] [] [] (by kernel_rfl) ?_; repeat (first | ((first | refine dq_pu rfl ?_ | refine dq_rd rfl ?_ | (refine dq_gTp rfl rfl ?_ ?_; (focus (simp [*]; done))) | (refine dq_gTr rfl rfl ?_ ?_; (focus (simp [*]; done)))); constructor; refine And.intro (fun _ _ hO => ?_) ?_; (focus (simp [*]; (try simp (discharger := omega) only [wrap_i64, dec_t, dec_f]); (first | ((try (first | refine .inl ⟨?_, by omega, by omega⟩ | refine ⟨by omega, by omega, ?_⟩ | refine ⟨by omega, ?_⟩ | refine .inl ?_)); exact hO.out _ _ (.refl _) (St.le_refl _)) | ((first | refine Tri.call (foldT _ _) ?_); rintro _ _ ⟨rfl, h9⟩; replace h9 := h9.symm; subst h9; exact hO.out _ _ (.refl _) (St.le_refl _)) | exact .inr ⟨(foldT _ _), hO.out _ _ (.refl _) (St.le_refl _)⟩ | exact .inl ⟨(foldT _ _), hO.out _ _ (.refl _) (St.le_refl _)⟩ | exact ⟨_, (foldT _ _), hO.out _ _ (.refl _) (St.le_refl _)⟩))); (first | refine aput_some (by decide) ?_ | refine aput_none ?_)) | ((first | (refine dq_gF rfl rfl ?_ ?_; (focus (simp [*]; done))) | (refine dq_gU rfl rfl ?_ ?_; (focus (simp [*]; done)))); (first | refine aput_some (by decide) ?_ | refine aput_none ?_)) | refine dq_nil ?_ | refine dtail_none ?_ | refine dtail_some ?_ | refine dals_alloc rfl (by decide) (by simp; rfl) ?_ | refine dals_box rfl (by decide) (by simp [*]; rfl) ?_  | (refine dals_arrO rfl (by decide) (by first | rfl | simp) (by simp) (by intro σ'; simp [*]; exact foldT _ _ σ') (by first | assumption | simp) ?_) | refine dals_nil ?_ | refine dfin_nil ?_ | (refine dfin_cons rfl ?_; simp only [fresh_set, ne_eq, and_assoc]; intro b8 c8 hf8 hc8; (try subst hc8); (repeat (obtain ⟨_, hf8⟩ := hf8))) | (refine aops_idx rfl (fun K9 hO => ?_); simp [*]; (try simp (discharger := omega) only [wrap_i64, dec_t, dec_f]); (first | ((try (first | refine .inl ⟨by omega, by omega, ?_⟩ | refine ⟨by omega, by omega, ?_⟩ | refine ⟨by omega, ?_⟩ | refine .inl ?_)); (first | (intro b; intros; refine hO.out _ _ ?_) | refine hO.out _ _ ?_)) | ((first | refine Tri.call (foldT _ _) ?_); (first | rintro _ _ ⟨rfl, h9⟩; replace h9 := h9.symm; subst h9 | rintro _ _ ⟨_, rfl, rfl⟩ | rintro _ _ ⟨_, _, rfl, rfl⟩ | rintro _ _ ⟨_, _, _, rfl, rfl⟩); refine hO.out _ _ ?_)); clear hO; (try clear K9); (first | refine aput_some (by decide) ?_ | refine aput_none ?_)) | refine aops_end ?_ | ((repeat ((fail_if_success (refine hK.out _ _ ?_)); clear hK; (try clear hP EG); (try clear KS))); refine hK.out _ _ ?_; clear hK; (try clear hP EG); try clear KS)))
            refine' wlk0
            refine hL2.out _ _ (.same ⟨mixT, ⟨k + 1, by omega, ?_, ?_, rfl⟩, ?_⟩)
            · have := Hid.out HSUC
              rw [this, Hid.out HQ, Bool.false_and]
              simp [*]
            · simp [*]
            · simp [*, D.int]
              omega
        · have hke : k = a.size := by omega
          subst hke
          have hq := eqk_all a b i
          cases ho : Lib.occAt (foldS b).data.toList (foldS a).data.toList i with
          | true =>
            rw [ho] at hq
            have HO := Lib.hid ho
            clear ho
            refine' wlk0
            have hc : standsB (foldS a) b = true := contains_of_occ (Hid.out HO) (by simp; have := size_foldS b; omega)
            ((try simp [*]); (try simp (discharger := omega) only [wrap_i64, dec_t, dec_f]))
            exact .same ⟨rfl, rfl⟩
          | false =>
            rw [ho] at hq
            have HO := Lib.hid ho
            clear ho
            refine' wlk0
            refine hL.out _ _ (.same ⟨mixT, ⟨i + 1, by omega, ?_, Lib.hid (fun j hj => ?_), rfl⟩, ?_⟩)
            · simp [*]
            · rcases Nat.lt_or_ge j i with h | h
              · exact Hid.out hocc j h
              · have : j = i := by omega
                exact this ▸ Hid.out HO
            · simp [*, D.int]
              omega
    · have hlt' : ¬ ((i : Int) + a.size ≤ b.size) := by omega
      refine' wlk0
      have hc : standsB (foldS a) b = false := by
        refine contains_none (fun j hj => ?_)
        rcases Nat.lt_or_ge j i with h | h
        · exact Hid.out hocc j h
        · refine occ_long a b i (by omega) j h ?_
          have := size_foldS b
          simp at hj
          omega
      ((try simp [*]); (try simp (discharger := omega) only [wrap_i64, dec_t, dec_f]))
      exact .same ⟨rfl, rfl⟩
set_option maxHeartbeats 4000000 in
theorem refFitsT (q : QV) (x : SV) (σ : St) (hq : q.term.size ≤ 1000000) (hn : x.name.size ≤ 1000000) (ht : x.topic.size ≤ 1000000) (ha : x.alias.size ≤ 1000000) (hl : q.types.length ≤ 1000000) :
    Tri Tryd.prog 14 [.agg (QVd q), .agg (SVd x)] σ fun d τ => d = .b (fitsB q x) ∧ τ = σ := by
  unfold QVd
  refine tri_fn Tryd.func14 rfl Tryd.ntmps14 Tryd.results14 (Nat.le_of_ble_eq_true rfl) ?_
  cases h1 : standsB (foldS q.term) x.name <;> cases h2 : standsB (foldS q.term) x.topic <;> cases h3 : standsB (foldS q.term) x.alias
  all_goals
    repeat (first | ((first | refine aops_cons (fun K9 hO => ?_) | (refine aops_guardT rfl ?_ (fun K9 hO => ?_); (focus (simp [*]; done)))); simp [*]; (try simp (discharger := omega) only [wrap_i64, dec_t, dec_f]); (first | ((try (first | refine .inl ⟨by omega, by omega, ?_⟩ | refine ⟨by omega, by omega, ?_⟩ | refine ⟨by omega, ?_⟩ | refine .inl ?_)); (first | (intro b; intros; refine hO.out _ _ ?_) | refine hO.out _ _ ?_)) | ((first | refine Tri.call (refStandsT _ _ _ hq hn) ?_ | refine Tri.call (refStandsT _ _ _ hq ht) ?_ | refine Tri.call (refStandsT _ _ _ hq ha) ?_); (first | rintro _ _ ⟨rfl, h9⟩; replace h9 := h9.symm; subst h9 | rintro _ _ ⟨_, rfl, rfl⟩ | rintro _ _ ⟨_, _, rfl, rfl⟩ | rintro _ _ ⟨_, _, _, rfl, rfl⟩); refine hO.out _ _ ?_)); clear hO; (try clear K9); (first | refine aput_some (by decide) ?_ | refine aput_none ?_)) | refine aops_nil ?_ | refine aseq_normal ?_ | refine aseq_ret ?_ | refine aseq_exit ?_ | refine ablock_normal ?_ | refine ablock_ret ?_ | refine ablock_same ?_ | refine ablock_other (by decide) ?_ | ((repeat ((fail_if_success (refine hK.out _ _ ?_)); clear hK; (try clear hP EG); (try clear KS))); refine hK.out _ _ ?_; clear hK; (try clear hP EG); try clear KS) | refine awp_seq (fun KS hK => ?_) | refine awp_region (fun KS EG hK hP => ?_) | refine awp_block ?_ | refine awp_skip ?_ | refine awp_ret ?_ | refine awp_exit ?_ | (refine awp_condT ?_ ?_; (focus (simp [*]; done))) | (refine awp_condF ?_ ?_; (focus (simp [*]; done))) | ((first | (refine aops_guardF rfl ?_ ?_; (focus (simp [*]; done))) | (refine aops_guardU rfl ?_ ?_; (focus (simp [*]; done)))); (first | refine aput_some (by decide) ?_ | refine aput_none ?_)))
  · have hB : fitsB q x = false := by unfold fitsB; simp [*]
    ((try simp [*]); (try simp (discharger := omega) only [wrap_i64, dec_t, dec_f]))
    exact .mk _ σ (.refl _) leT ⟨rfl, rfl⟩
  all_goals
    have hB : fitsB q x = typeB q x := by unfold fitsB; simp [*]
    have HB := Lib.hid hB
    clear hB
    refine' gen2S
    refine awp_loopM [4, 5, 31, 32, 33, 34, 35, 36, 37, 38, 39, 40, 41, 42] (fun X τ => ∃ k : Nat, k ≤ q.types.length ∧ X 31 = .i k ∧ Hid (∀ t ∈ q.types.take k, ¬ t = x.typ) ∧ τ = σ1) (fun X _ => q.types.length - (X 31).int.toNat) ?_ ?_
    · refine .same ⟨mix_self _ _, 0, by omega, ?_, Lib.hid (by simp), rfl⟩
      simp [*]
    · rintro X τ ⟨k, hk, h31, hall, rfl⟩ _ hL
      by_cases hlt : k < q.types.length
      · have hlt1 : (k : Int) < q.types.length := by omega
        by_cases he : q.types[k] = x.typ
        · have hT : typeB q x = true := by
            unfold typeB
            rw [Bool.or_eq_true]
            refine .inr ((Lib.containsS_iff _ _).mpr (he ▸ List.getElem_mem hlt))
          have HT := Lib.hid hT
          clear hT
          refine' wlk0
          (refine awp_draw (fun KS EG hK hP => ?_); refine draw_rule rfl [(0, true), (1, false), (2, true), (3, true), (4, false), (5, true), (6, false), (7, true)] [] [] (by kernel_rfl) ?_; refine' dqs0)
          refine' wlk0
          ((try simp [*]); (try simp (discharger := omega) only [wrap_i64, dec_t, dec_f]))
          refine .mk _ σ (.refl _) leT ⟨?_, rfl⟩
          rw [Hid.out HB, Hid.out HT]
        · refine' wlk0
          (refine awp_draw (fun KS EG hK hP => ?_); refine draw_rule rfl [(0, true), (1, false), (2, true), (3, true), (4, false), (5, true), (6, false), (7, true)] [] [] (by kernel_rfl) ?_; refine' dqs0)
          refine' wlk0
          refine hL.out _ _ (.same ⟨mixT, ⟨k + 1, by omega, ?_, Lib.hid ?_, rfl⟩, ?_⟩)
          · simp [*]
          · intro t hm
            rw [List.take_succ_eq_append_getElem hlt, List.mem_append, List.mem_singleton] at hm
            rcases hm with hm | rfl
            · exact Hid.out hall t hm
            · exact he
          · simp [*, D.int]
            omega
      · have hke : k = q.types.length := by omega
        subst hke
        have hT : typeB q x = decide (q.types.length = 0) := by
          have h0 : Lib.containsS q.types x.typ = false := by
            cases hc : Lib.containsS q.types x.typ with
            | false => rfl
            | true =>
              have := (Lib.containsS_iff _ _).mp hc
              exact absurd rfl (Hid.out hall x.typ (by rw [List.take_length]; exact this))
          unfold typeB
          rw [h0, Bool.or_false]
          cases q.types <;> simp
        have HT := Lib.hid hT
        clear hT
        refine' wlk0
        ((try simp [*]); (try simp (discharger := omega) only [wrap_i64, dec_t, dec_f]))
        refine .mk _ σ (.refl _) leT ⟨?_, rfl⟩
        rw [Hid.out HB, Hid.out HT]
        simp
end Go.Proofs.YtmpbofmhjjgccaaDoor
/-
  Summaries, questions from the document's ones and back.
-/
namespace Go.Proofs.YtmpbofmhjjgccaaDoor
open Go.RowKit
set_option maxRecDepth 100000
set_option linter.unusedVariables false
set_option linter.unusedSimpArgs false
attribute [local irreducible] awp aops aop aput aseq ablock TriX Tri Ret Fresh dq adraw dtail dals dfin Wk
attribute [local simp] SVd

set_option maxHeartbeats 4000000 in
theorem realOneT (x : SV) (σ : St) : Tri Tryd.prog 13 [.agg (SVd x)] σ fun d τ => d = .agg (SVd x) ∧ τ = σ := by
  refine tri_fn Tryd.func13 rfl Tryd.ntmps13 Tryd.results13 (Nat.le_of_ble_eq_true rfl) ?_
  refine' wlk0
  ((try simp [*]); (try simp (discharger := omega) only [wrap_i64, dec_t, dec_f]))
  exact .mk _ σ (.refl _) leT ⟨rfl, rfl⟩
set_option maxHeartbeats 4000000 in
theorem refOneT (x : SV) (σ : St) : Tri Tryd.prog 22 [.agg (SVd x)] σ fun d τ => d = .agg (SVd x) ∧ τ = σ := by
  refine tri_fn Tryd.func22 rfl Tryd.ntmps22 Tryd.results22 (Nat.le_of_ble_eq_true rfl) ?_
  refine' wlk0
  ((try simp [*]); (try simp (discharger := omega) only [wrap_i64, dec_t, dec_f]))
  exact .mk _ σ (.refl _) leT ⟨rfl, rfl⟩
/-- What Real hands back: nil, or a list. -/
def realD (l : List SV) : D := match l with | [] => .v (.slice none 0 0) | x :: l => .slice none false 10 ((x :: l).map SVd)
set_option maxHeartbeats 4000000 in
theorem realT (l : List SV) (σ : St) (hl : l.length ≤ 1000000) : Tri Tryd.prog 7 [SVsD l] σ fun d τ => d = realD l ∧ τ = σ := by
  unfold SVsD
  refine tri_fn Tryd.func7 rfl Tryd.ntmps7 Tryd.results7 (Nat.le_of_ble_eq_true rfl) ?_
  refine' wlk0
  refine awp_loopM [3, 5, 8, 9, 10, 11, 12, 13, 14, 15, 16, 17] (fun X τ => ∃ (k : Nat) (dl : D), k ≤ l.length ∧ X 8 = .i k ∧ X 3 = dl ∧ GrowT σ 49 10 ((l.map SVd).take k) dl τ) (fun X _ => l.length - (X 8).int.toNat) ?_ ?_
  · refine .same ⟨mix_self _ _, 0, _, by omega, ?_, rfl, ?_⟩
    · simp [*]
    · simpa [*] using GrowT.start _ _ _
  · rintro X τ ⟨k, dl, hk, h8, h3, hg⟩ _ hL
    by_cases hlt : k < l.length
    · rcases hg.cases_take hlt with ⟨rfl, rfl, rfl⟩ | ⟨bt, cap, g1, g2, rfl, rfl⟩
      · repeat (first | ((first | refine aops_cons (fun K9 hO => ?_) | (refine aops_guardT rfl ?_ (fun K9 hO => ?_); (focus (simp [*]; done)))); simp [*]; (try simp (discharger := omega) only [wrap_i64, dec_t, dec_f]); (first | ((try (first | refine .inl ⟨by omega, by omega, ?_⟩ | refine ⟨by omega, by omega, ?_⟩ | refine ⟨by omega, ?_⟩ | refine .inl ?_)); (first | (intro b; intros; refine hO.out _ _ ?_) | refine hO.out _ _ ?_)) | ((first | refine Tri.call (realOneT _ _) ?_); (first | rintro _ _ ⟨rfl, h9⟩; replace h9 := h9.symm; subst h9 | rintro _ _ ⟨_, rfl, rfl⟩ | rintro _ _ ⟨_, _, rfl, rfl⟩ | rintro _ _ ⟨_, _, _, rfl, rfl⟩); refine hO.out _ _ ?_)); clear hO; (try clear K9); (first | refine aput_some (by decide) ?_ | refine aput_none ?_)) | refine aops_nil ?_ | refine aseq_normal ?_ | refine aseq_ret ?_ | refine aseq_exit ?_ | refine ablock_normal ?_ | refine ablock_ret ?_ | refine ablock_same ?_ | refine ablock_other (by decide) ?_ | ((repeat ((fail_if_success (refine hK.out _ _ ?_)); clear hK; (try clear hP EG); (try clear KS))); refine hK.out _ _ ?_; clear hK; (try clear hP EG); try clear KS) | refine awp_seq (fun KS hK => ?_) | refine awp_region (fun KS EG hK hP => ?_) | refine awp_block ?_ | refine awp_skip ?_ | refine awp_ret ?_ | refine awp_exit ?_ | (refine awp_condT ?_ ?_; (focus (simp [*]; done))) | (refine awp_condF ?_ ?_; (focus (simp [*]; done))) | ((first | (refine aops_guardF rfl ?_ ?_; (focus (simp [*]; done))) | (refine aops_guardU rfl ?_ ?_; (focus (simp [*]; done)))); (first | refine aput_some (by decide) ?_ | refine aput_none ?_)))
        refine hL.out _ _ (.less (τ.set b (some (.tip 49 10 _ 1))) leT (.same ⟨mixT, ⟨1, _, by omega, ?_, ?_, GrowT.take0 hlt b _ (by assumption)⟩, ?_⟩))
        · simp [*]
        · simp [*]
        · simp [*, D.int]; omega
      · clear hg
        have hmin : min k l.length = k := by omega
        repeat (first | ((first | refine aops_cons (fun K9 hO => ?_) | (refine aops_guardT rfl ?_ (fun K9 hO => ?_); (focus (simp [*]; done)))); simp [*]; (try simp (discharger := omega) only [wrap_i64, dec_t, dec_f]); (first | ((try (first | refine .inl ⟨by omega, by omega, ?_⟩ | refine ⟨by omega, by omega, ?_⟩ | refine ⟨by omega, ?_⟩ | refine .inl ?_)); (first | (intro b; intros; refine hO.out _ _ ?_) | refine hO.out _ _ ?_)) | ((first | refine Tri.call (realOneT _ _) ?_); (first | rintro _ _ ⟨rfl, h9⟩; replace h9 := h9.symm; subst h9 | rintro _ _ ⟨_, rfl, rfl⟩ | rintro _ _ ⟨_, _, rfl, rfl⟩ | rintro _ _ ⟨_, _, _, rfl, rfl⟩); refine hO.out _ _ ?_)); clear hO; (try clear K9); (first | refine aput_some (by decide) ?_ | refine aput_none ?_)) | refine aops_nil ?_ | refine aseq_normal ?_ | refine aseq_ret ?_ | refine aseq_exit ?_ | refine ablock_normal ?_ | refine ablock_ret ?_ | refine ablock_same ?_ | refine ablock_other (by decide) ?_ | ((repeat ((fail_if_success (refine hK.out _ _ ?_)); clear hK; (try clear hP EG); (try clear KS))); refine hK.out _ _ ?_; clear hK; (try clear hP EG); try clear KS) | refine awp_seq (fun KS hK => ?_) | refine awp_region (fun KS EG hK hP => ?_) | refine awp_block ?_ | refine awp_skip ?_ | refine awp_ret ?_ | refine awp_exit ?_ | (refine awp_condT ?_ ?_; (focus (simp [*]; done))) | (refine awp_condF ?_ ?_; (focus (simp [*]; done))) | ((first | (refine aops_guardF rfl ?_ ?_; (focus (simp [*]; done))) | (refine aops_guardU rfl ?_ ?_; (focus (simp [*]; done)))); (first | refine aput_some (by decide) ?_ | refine aput_none ?_)))
        refine hL.out _ _ (.less (σ.set b (some (.tip 49 10 _ (k + 1)))) leT (.same ⟨mixT, ⟨k + 1, _, by omega, ?_, ?_, GrowT.take hlt b _ (by assumption)⟩, ?_⟩))
        · simp [*]
        · simp [*]
        · simp [*, D.int]; omega
    · have hke : k = l.length := by omega
      replace hg := hg.done hke
      have HL0 := Lib.hid hg.le.2
      rw [hke] at h8
      clear hke hlt hk
      rcases hg with ⟨e1, rfl, rfl⟩ | ⟨bt, cap, g1, g2, rfl, rfl⟩
      · obtain rfl : l = [] := by simpa using e1
        refine' wlk0
        ((try simp [*]); (try simp (discharger := omega) only [wrap_i64, dec_t, dec_f]))
        exact .same ⟨rfl, rfl⟩
      · obtain ⟨x, r, rfl⟩ : ∃ x r, l = x :: r := by
          cases l with
          | nil => simp at g2
          | cons x r => exact ⟨x, r, rfl⟩
        refine' wlk0
        ((try simp [*]); (try simp (discharger := omega) only [wrap_i64, dec_t, dec_f]))
        exact .mk _ σ (.sl _ _ _ _) leT ⟨rfl, rfl⟩
set_option maxHeartbeats 4000000 in
theorem questionT (q : QV) (σ : St) (hl : q.types.length ≤ 1000000) : Tri Tryd.prog 8 [.agg (QVd q)] σ fun d τ => d = .agg [.s q.term, .slice none false 1 (q.types.map fun t => [D.s t]), .i q.limit, .i q.since] ∧ τ = σ := by
  unfold QVd
  refine tri_fn Tryd.func8 rfl Tryd.ntmps8 Tryd.results8 (Nat.le_of_ble_eq_true rfl) ?_
  refine' wlk0
  (refine awp_draw (fun KS EG hK hP => ?_); refine draw_rule rfl [(0, true), (1, false), (2, true), (3, true), (4, false), (5, true), (6, true), (7, false), (8, true), (9, false), (10, true)] [] [11] (by kernel_rfl) ?_; refine' dqs0)
  refine' wlk0
  ((try simp [*]); (try simp (discharger := omega) only [wrap_i64, dec_t, dec_f]))
  exact .mk _ σ (.refl _) leT ⟨rfl, rfl⟩
end Go.Proofs.YtmpbofmhjjgccaaDoor
/-
  The library's contracts, over values.
-/
namespace Go.Proofs.YtmpbofmhjjgccaaDoor
open Go.RowKit
set_option maxRecDepth 100000
set_option linter.unusedVariables false
set_option linter.unusedSimpArgs false
attribute [local irreducible] awp aops aop aput aseq ablock TriX Tri Ret Fresh dq adraw dtail dals dfin Wk

theorem RepL.lits {G : Gh} : ∀ {vs us : List Value}, RepL G us (vs.map D.v) → us = vs
  | [], us, h => h.inv0
  | v :: vs, us, h => by
    obtain ⟨x, xs, rfl, hx, hs⟩ := RepL.inv h
    rw [hx.v_inv, RepL.lits hs]
/-- A contract of a function of plain values, that only makes new memory. -/
theorem tri_below {f : FuncId} (vs : List Value) (v : Value) (σ : St) (h : ∀ base w : World, BaseOk base → Below base.heap.size base w → Calls Tryd.prog f vs.toArray w fun e w' => e = .returned v ∧ Below w.heap.size w w') :
    Tri Tryd.prog f (vs.map D.v) σ fun d τ => d = .v v ∧ τ = σ := by
  unfold Tri TriX
  intro base w G us hS hA
  cases RepL.lits hA
  refine (h base w hS.ok hS.below).mono ?_
  rintro e w' ⟨rfl, hb⟩
  exact ⟨σ, G, Gh.le_refl G, hS.grow hb, .inl ⟨_, _, rfl, .v _, rfl, rfl⟩⟩
end Go.Proofs.YtmpbofmhjjgccaaDoor
/-
  Errors, as they are told, and as the program has them.
-/
namespace Go.Proofs.YtmpbofmhjjgccaaDoor
open Go.RowKit
set_option maxRecDepth 100000
set_option linter.unusedVariables false
set_option linter.unusedSimpArgs false
attribute [local irreducible] awp aops aop aput aseq ablock TriX Tri Ret Fresh dq adraw dtail dals dfin Wk

/-- An error as it is told: its code, its place, its path. -/
structure ErT where
  code : Int
  at_ : Int
  path : ByteArray
def ErT.d (e : ErT) : List D := [.i e.code, .i e.at_, .s e.path]
def ErT.none : ErT := ⟨0, -1, ByteArray.empty⟩
def ErT.err (c : Int) : ErT := ⟨c, -1, ByteArray.empty⟩
def ErT.in_ (f : ByteArray) (e : ErT) : ErT := if e.code = 0 then e else ⟨e.code, e.at_, ByteArray.mk #[47] ++ f ++ e.path⟩
theorem noneT (σ : St) : Tri Tryd.prog 20 [] σ fun d τ => d = .agg ErT.none.d ∧ τ = σ := by
  refine tri_fn Tryd.func20 rfl Tryd.ntmps20 Tryd.results20 (Nat.le_of_ble_eq_true rfl) ?_
  refine' wlk0
  ((try simp [*]); (try simp (discharger := omega) only [wrap_i64, dec_t, dec_f]))
  exact .mk _ σ (.refl _) leT ⟨rfl, rfl⟩
theorem errT (c : Int) (σ : St) : Tri Tryd.prog 19 [.i c] σ fun d τ => d = .agg (ErT.err c).d ∧ τ = σ := by
  refine tri_fn Tryd.func19 rfl Tryd.ntmps19 Tryd.results19 (Nat.le_of_ble_eq_true rfl) ?_
  refine' wlk0
  ((try simp [*]); (try simp (discharger := omega) only [wrap_i64, dec_t, dec_f]))
  exact .mk _ σ (.refl _) leT ⟨rfl, rfl⟩
theorem inT (f : ByteArray) (e : ErT) (σ : St) (hs : f.size + e.path.size ≤ 4611686018427387904) : Tri Tryd.prog 18 [.s f, .agg e.d] σ fun d τ => d = .agg (ErT.in_ f e).d ∧ τ = σ := by
  obtain ⟨c, a, p⟩ := e
  rw [ErT.d]
  simp only at hs
  refine tri_fn Tryd.func18 rfl Tryd.ntmps18 Tryd.results18 (Nat.le_of_ble_eq_true rfl) ?_
  by_cases hc : c = 0
  · subst hc
    refine' wlk0
    ((try simp [*]); (try simp (discharger := omega) only [wrap_i64, dec_t, dec_f]))
    exact .mk _ σ (.refl _) leT ⟨rfl, rfl⟩
  · have e47 : (ByteArray.mk #[47]).size = 1 := rfl
    refine' wlk0
    ((try simp [*]); (try simp (discharger := omega) only [wrap_i64, dec_t, dec_f]))
    exact .mk _ σ (.refl _) leT ⟨by rw [ErT.in_, if_neg hc]; rfl, rfl⟩
/-- An error of the program: a code, or a fault about one. -/
inductive Er where
  | code (c : Int)
  | fault (at_ : Int) (field : ByteArray) (why : Er)
def Er.d : Er → D
  | .code c => .iface 53 (.i c)
  | .fault a f w => .iface 52 (.ptr [.i a, .s f, w.d])
def erD : Option Er → D
  | none => .v .nilIface
  | some e => e.d
/-- Its innermost code. -/
def Er.inner : Er → Int
  | .code c => c
  | .fault _ _ w => w.inner
/-- As it is told: from the outside in. -/
def Er.tell (at_ : Int) (path : ByteArray) : Er → Int × ByteArray
  | .code _ => (at_, path)
  | .fault a f w => w.tell (if 0 ≤ a ∧ at_ < 0 then a else at_) (if ¬ f = ⟨#[]⟩ ∨ a < 0 then path ++ (ByteArray.mk #[47] ++ f) else path)
def told : Option Er → ErT
  | none => ErT.none
  | some e => ⟨e.inner, (e.tell (-1) ByteArray.empty).1, (e.tell (-1) ByteArray.empty).2⟩
/-- A path that is told stands behind what is told ahead. -/
theorem Er.tell_path : ∀ (e : Er) (a : Int) (p : ByteArray), (e.tell a p).2 = p ++ (e.tell a ByteArray.empty).2
  | .code _, a, p => by simp [Er.tell]
  | .fault b f w, a, p => by
    simp only [Er.tell]
    by_cases hc : ¬ f = ⟨#[]⟩ ∨ b < 0
    · rw [if_pos hc, if_pos hc, Er.tell_path w _ (p ++ _), Er.tell_path w _ (ByteArray.empty ++ _)]
      simp [ByteArray.append_assoc]
    · rw [if_neg hc, if_neg hc]
      exact Er.tell_path w _ p
theorem told_in (f : ByteArray) (e : Er) (h : ¬ e.inner = 0) : told (some (.fault (-1) f e)) = ErT.in_ f (told (some e)) := by
  have h2 : ErT.in_ f (told (some e)) = ⟨e.inner, (e.tell (-1) ByteArray.empty).1, ByteArray.mk #[47] ++ f ++ (e.tell (-1) ByteArray.empty).2⟩ := if_neg h
  have h1 : told (some (.fault (-1) f e)) = ⟨e.inner, (e.tell (-1) (ByteArray.empty ++ (ByteArray.mk #[47] ++ f))).1, (e.tell (-1) (ByteArray.empty ++ (ByteArray.mk #[47] ++ f))).2⟩ := by
    simp only [told, Er.tell, Er.inner]
    rw [if_neg (by omega), if_pos (.inr (by omega))]
  have h3 : ∀ (e : Er) (a : Int) (p q : ByteArray), (e.tell a p).1 = (e.tell a q).1 := by
    intro e
    induction e with
    | code c => intro a p q; rfl
    | fault b f w ih => intro a p q; exact ih _ _ _
  rw [h1, h2, Er.tell_path, h3 e (-1) _ ByteArray.empty]
  simp
end Go.Proofs.YtmpbofmhjjgccaaDoor
/-
  The document's Find; whether an answer is the document's.
-/
namespace Go.Proofs.YtmpbofmhjjgccaaDoor
open Go.RowKit
set_option maxRecDepth 100000
set_option linter.unusedVariables false
set_option linter.unusedSimpArgs false
attribute [local irreducible] awp aops aop aput aseq ablock TriX Tri Ret Fresh dq adraw dtail dals dfin Wk
attribute [local simp] SVd ErT.d

/-- The rooms of the page, out of those that fit. -/
def roomsL (q : QV) (F : List SV) : List SV := (F.drop q.since.toNat).take q.limit.toNat
theorem roomsL_snoc (q : QV) (F : List SV) (x : SV) : roomsL q (F ++ [x]) = if q.since.toNat ≤ F.length ∧ (roomsL q F).length < q.limit.toNat then roomsL q F ++ [x] else roomsL q F := by
  unfold roomsL
  by_cases h1 : q.since.toNat ≤ F.length
  · rw [List.drop_append_of_le_length h1]
    by_cases h2 : ((F.drop q.since.toNat).take q.limit.toNat).length < q.limit.toNat
    · rw [if_pos ⟨h1, h2⟩]
      have h3 : (F.drop q.since.toNat).length < q.limit.toNat := by
        rw [List.length_take] at h2
        omega
      rw [List.take_of_length_le (by rw [List.length_append, List.length_singleton]; omega), List.take_of_length_le (by omega)]
    · rw [if_neg (fun h => h2 h.2)]
      have h3 : q.limit.toNat ≤ (F.drop q.since.toNat).length := by
        rw [List.length_take] at h2
        omega
      rw [List.take_append_of_le_length h3]
  · rw [if_neg (fun h => h1 h.1), List.drop_eq_nil_of_le (by rw [List.length_append, List.length_singleton]; omega), List.drop_eq_nil_of_le (by omega)]
theorem roomsL_page (q : QV) (l : List SV) : roomsL q (fitL q l) = pageL q l := by
  unfold roomsL pageL restL
  have h : ∀ (F : List SV) (a : Nat), F.drop (min a F.length) = F.drop a := by
    intro F a
    rcases Nat.le_total a F.length with h | h
    · rw [Nat.min_eq_left h]
    · rw [Nat.min_eq_right h, List.drop_length, List.drop_eq_nil_of_le h]
  have k : ∀ (F : List SV) (a : Nat), F.take (min a F.length) = F.take a := by
    intro F a
    rcases Nat.le_total a F.length with h | h
    · rw [Nat.min_eq_left h]
    · rw [Nat.min_eq_right h, List.take_length, List.take_of_length_le h]
  rw [h, k]
theorem fitL_take (q : QV) (l : List SV) (k : Nat) (h : k < l.length) : fitL q (l.take (k + 1)) = if fitsB q l[k] = true then fitL q (l.take k) ++ [l[k]] else fitL q (l.take k) := by
  unfold fitL
  rw [List.take_succ_eq_append_getElem h, List.filter_append]
  by_cases hf : fitsB q l[k] = true
  · simp [hf]
  · simp [hf]
/-- An answer. -/
def ansD (q : QV) (l : List SV) : D := .agg [.lst false 10 ((pageL q l).map SVd), .i (fitL q l).length, .i (nextI q l), .i (prevI q)]
def noAnsD : D := .agg [.lst false 10 [], .i 0, .i 0, .i 0]
def limitB : ByteArray := ⟨#[108, 105, 109, 105, 116]⟩
def sinceB : ByteArray := ⟨#[115, 105, 110, 99, 101]⟩
set_option maxHeartbeats 8000000 in
theorem refFindT (l : List SV) (q : QV) (σ : St) (hl : l.length ≤ 1000) (hx : ∀ x ∈ l, x.name.size ≤ 1000000 ∧ x.topic.size ≤ 1000000 ∧ x.alias.size ≤ 1000000) (hq : q.term.size ≤ 1000000) (ht : q.types.length ≤ 1000000)
    (h1 : 1 ≤ q.limit) (h2 : q.limit ≤ 50) (h3 : 0 ≤ q.since) (h4 : q.since ≤ 9223372036854775807) :
    Tri Tryd.prog 9 [SVsD l, .agg (QVd q)] σ fun d τ => d = .tup [ansD q l, .agg ErT.none.d] ∧ τ = σ := by
  have FIT := Lib.hid (fun (k : Nat) (h : k < l.length) (σ : St) => refFitsT q l[k] σ hq (hx _ (List.getElem_mem h)).1 (hx _ (List.getElem_mem h)).2.1 (hx _ (List.getElem_mem h)).2.2 ht)
  clear hx hq ht
  obtain ⟨dq, hdq⟩ : ∃ dq, dq = D.lst false 1 (q.types.map fun t => [D.s t]) := ⟨_, rfl⟩
  unfold SVsD QVd
  unfold QVd at FIT
  rw [← hdq] at FIT ⊢
  clear hdq
  refine tri_fn Tryd.func9 rfl Tryd.ntmps9 Tryd.results9 (Nat.le_of_ble_eq_true rfl) ?_
  refine' wlk0
  rename_i bq _ b4 _ _ _ b5 _ _ _ _ _ _ _ _ _ _ _ _
  refine awp_genI ?_
  intro σ1 hσ1
  have oq : σ1.own bq = some (.box 25 [.s q.term, dq, .i q.limit, .i q.since]) := by
    rw [hσ1]
    simp [*]
  have o4 : σ1.own b4 = some (.box 39 [.v (.slice none 0 0), .i 0, .i 0, .i 0]) := by
    rw [hσ1]
    simp [*]
  have o5 : σ1.own b5 = some (.box 41 [.i 0, .i 0, .s ByteArray.empty]) := by
    rw [hσ1]
    simp [*]
  have HLE := Lib.hid (show σ.le σ1 by rw [hσ1]; exact leT)
  have hfr1 : Fresh σ1 b := by
    rw [hσ1]
    simp [*]
  clear hσ1
  obtain ⟨bo, hbo⟩ : ∃ bo, bo = b := ⟨_, rfl⟩
  subst hbo
  refine awp_loopM [7, 28, 29, 30, 31, 32, 33, 34, 35, 36, 37, 38, 39, 40, 41, 42, 43, 44, 45, 46, 47, 48, 49, 50, 51, 52, 53, 54, 55, 56, 57, 58, 59, 60, 61, 62, 63, 64] (fun X τ => ∃ (k : Nat) (dl : D) (τ0 : St), k ≤ l.length ∧ X 28 = .i k ∧ Grow σ1 bo 47 10 ((roomsL q (fitL q (l.take k))).map SVd) dl τ0 ∧
      τ = τ0.set bo (some (.box 39 [dl, .i (fitL q (l.take k)).length, .i (-1), .i (-1)]))) (fun X _ => l.length - (X 28).int.toNat) ?_ ?_
  · refine .same ⟨mix_self _ _, 0, .v (.slice none 0 0), σ1, by omega, ?_, ?_, ?_⟩
    · simp [*]
    · simpa [fitL, roomsL] using Grow.start σ1 bo _ _
    · simp [fitL]
  · rintro X τ ⟨k, dl, τ0, hk, h28, hg, rfl⟩ _ hL
    by_cases hlt : k < l.length
    · have FT := Lib.hid (FIT.out k hlt)
      have HF := Lib.hid (fitL_take q l k hlt)
      obtain ⟨F, hF⟩ : ∃ F, F = fitL q (l.take k) := ⟨_, rfl⟩
      have hFl : F.length ≤ k := by
        rw [hF]
        unfold fitL
        have := List.length_filter_le (fitsB q) (l.take k)
        rw [List.length_take] at this
        omega
      rw [← hF] at HF hg ⊢
      clear hF
      have HR := Lib.hid (roomsL_snoc q F l[k])
      have hRl : (roomsL q F).length ≤ F.length := by
        unfold roomsL
        rw [List.length_take, List.length_drop]
        omega
      obtain ⟨R, hR⟩ : ∃ R, R = roomsL q F := ⟨_, rfl⟩
      rw [← hR] at HR hg hRl
      have HRR := Lib.hid hR
      clear hR
      have HL0 := Lib.hid hg.le.2
      have ho1 := hg.le.2 _ _ oq
      cases hf : fitsB q l[k] with
      | false =>
        rw [hf] at FT
        have HG := Lib.hid hg
        clear hg
        refine' wlk0
        (refine awp_draw (fun KS EG hK hP => ?_); refine draw_rule rfl [(0, false), (1, true), (2, true), (3, true), (4, false), (5, false), (6, true)] [] [] (by kernel_rfl) ?_; refine' dqs1 FT.out)
        refine' wlk0
        refine hL.out _ _ (.same ⟨mixT, ⟨k + 1, dl, τ0, by omega, ?_, ?_, ?_⟩, ?_⟩)
        · simp [*]
        · rw [HF.out, if_neg (by rw [hf]; decide), ← HRR.out]
          exact HG.out
        · rw [HF.out, if_neg (by rw [hf]; decide)]
        · simp [*, D.int]; omega
      | true =>
        rw [hf] at FT
        rw [if_pos hf] at HF
        clear hf
        have HG := Lib.hid hg
        rcases hg with ⟨g0, rfl, rfl⟩ | ⟨bt, cap, g1, g3, g2, rfl, rfl⟩
        · obtain rfl : R = [] := by simpa using g0
          by_cases c1 : q.since ≤ F.length
          · obtain ⟨R2, hR2⟩ : ∃ R2, R2 = ([] : List SV) ++ [l[k]] := ⟨_, rfl⟩
            have HS := Lib.hid (show roomsL q (F ++ [l[k]]) = R2 by rw [HR.out, if_pos ⟨by omega, by simp; omega⟩, hR2])
            have HR2 := Lib.hid hR2
            clear hR2
            refine' wlk0
            (refine awp_draw (fun KS EG hK hP => ?_); refine draw_rule rfl [(0, false), (1, true), (2, true), (3, true), (4, false), (5, false), (6, true)] [] [] (by kernel_rfl) ?_; refine' dqs1 FT.out)
            refine' wlk0
            (refine awp_draw (fun KS EG hK hP => ?_); refine draw_rule rfl [(0, true), (1, false), (2, true), (3, true), (4, true), (5, false), (6, true), (8, true)] [] [7, 9] (by kernel_rfl) ?_; refine' dqs0)
            refine' wlk0
            clear HG
            rename_i cp _ _ _ _
            refine hL.out _ _ (.less ((τ0.set b (some (.tip 47 10 cp (0 + 1)))).set bo _) leT (.same ⟨mixT, ⟨k + 1, .slice (some (b, cp)) false 10 ((R2.map SVd)), τ0.set b (some (.tip 47 10 cp (0 + 1))), by omega, ?_, ?_, ?_⟩, ?_⟩))
            · simp [*]
            · rw [HF.out, HS.out]
              have := Grow.more (σ1 := τ0) (o := bo) (e := 47) (sz := 10) (ds := R2.map SVd) b cp (by assumption) (by assumption) (by rw [HR2.out]; simp)
              rw [List.length_map, HR2.out, List.length_append, List.length_singleton] at this
              rw [HR2.out]
              exact this
            · rw [HF.out, HR2.out]
              simp [SVd]
            · simp [*, D.int]; omega
          · have HS := Lib.hid (show roomsL q (F ++ [l[k]]) = [] by rw [HR.out, if_neg (fun h => by omega)])
            refine' wlk0
            (refine awp_draw (fun KS EG hK hP => ?_); refine draw_rule rfl [(0, false), (1, true), (2, true), (3, true), (4, false), (5, false), (6, true)] [] [] (by kernel_rfl) ?_; refine' dqs1 FT.out)
            refine' wlk0
            refine hL.out _ _ (.same ⟨mixT, ⟨k + 1, .v (.slice none 0 0), τ0, by omega, ?_, ?_, ?_⟩, ?_⟩)
            · simp [*]
            · rw [HF.out, HS.out]
              exact HG.out
            · rw [HF.out]
              simp
            · simp [*, D.int]; omega
        · have n1 := ne_own (b := bt) oq g1
          have g4 : ¬ bo = bt := fun e => g3 e.symm
          by_cases c1 : q.since ≤ F.length
          · by_cases c2 : (R.length : Int) < q.limit
            · obtain ⟨R2, hR2⟩ : ∃ R2, R2 = R ++ [l[k]] := ⟨_, rfl⟩
              have HS := Lib.hid (show roomsL q (F ++ [l[k]]) = R2 by rw [HR.out, if_pos ⟨by omega, by omega⟩, hR2])
              have HR2 := Lib.hid hR2
              clear hR2
              refine' wlk0
              (refine awp_draw (fun KS EG hK hP => ?_); refine draw_rule rfl [(0, false), (1, true), (2, true), (3, true), (4, false), (5, false), (6, true)] [] [] (by kernel_rfl) ?_; refine' dqs1 FT.out)
              refine' wlk0
              (refine awp_draw (fun KS EG hK hP => ?_); refine draw_rule rfl [(0, true), (1, false), (2, true), (3, true), (4, true), (5, false), (6, true), (8, true)] [] [7, 9] (by kernel_rfl) ?_; refine' dqs0)
              refine' wlk0
              clear HG
              rename_i cp _ _ _ _
              refine hL.out _ _ (.less ((σ1.set b (some (.tip 47 10 cp (R.length + 1)))).set bo _) leT (.same ⟨mixT, ⟨k + 1, .slice (some (b, cp)) false 10 ((R2.map SVd)), σ1.set b (some (.tip 47 10 cp (R.length + 1))), by omega, ?_, ?_, ?_⟩, ?_⟩))
              · simp [*]
              · rw [HF.out, HS.out]
                have := Grow.more (σ1 := σ1) (o := bo) (e := 47) (sz := 10) (ds := R2.map SVd) b cp (by assumption) (by assumption) (by rw [HR2.out]; simp)
                rw [List.length_map, HR2.out, List.length_append, List.length_singleton] at this
                rw [HR2.out]
                exact this
              · rw [HF.out, HR2.out]
                simp [SVd]
              · simp [*, D.int]; omega
            · have HS := Lib.hid (show roomsL q (F ++ [l[k]]) = R by rw [HR.out, if_neg (fun h => by omega)])
              refine' wlk0
              (refine awp_draw (fun KS EG hK hP => ?_); refine draw_rule rfl [(0, false), (1, true), (2, true), (3, true), (4, false), (5, false), (6, true)] [] [] (by kernel_rfl) ?_; refine' dqs1 FT.out)
              refine' wlk0
              refine hL.out _ _ (.same ⟨mixT, ⟨k + 1, .slice (some (bt, cap)) false 10 (R.map SVd), σ1.set bt (some (.tip 47 10 cap (R.map SVd).length)), by omega, ?_, ?_, ?_⟩, ?_⟩)
              · simp [*]
              · rw [HF.out, HS.out]
                exact HG.out
              · rw [HF.out]
                simp
              · simp [*, D.int]; omega
          · have HS := Lib.hid (show roomsL q (F ++ [l[k]]) = R by rw [HR.out, if_neg (fun h => by omega)])
            refine' wlk0
            (refine awp_draw (fun KS EG hK hP => ?_); refine draw_rule rfl [(0, false), (1, true), (2, true), (3, true), (4, false), (5, false), (6, true)] [] [] (by kernel_rfl) ?_; refine' dqs1 FT.out)
            refine' wlk0
            refine hL.out _ _ (.same ⟨mixT, ⟨k + 1, .slice (some (bt, cap)) false 10 (R.map SVd), σ1.set bt (some (.tip 47 10 cap (R.map SVd).length)), by omega, ?_, ?_, ?_⟩, ?_⟩)
            · simp [*]
            · rw [HF.out, HS.out]
              exact HG.out
            · rw [HF.out]
              simp
            · simp [*, D.int]; omega
    · have hke : k = l.length := by omega
      rw [hke, List.take_of_length_le (Nat.le_refl _)] at hg ⊢
      rw [hke] at h28
      clear hke hlt hk FIT hL
      rw [roomsL_page] at hg
      have HLS := Lib.hid hg.le.1
      have HL0 := Lib.hid hg.le.2
      have oq' := hg.le.2 _ _ oq
      have o4' := hg.le.2 _ _ o4
      have o5' := hg.le.2 _ _ o5
      have hfr' := hg.fresh hfr1
      have hn : (fitL q l).length ≤ l.length := List.length_filter_le _ _
      have hnx : nextI q l = if q.since < (fitL q l).length ∧ q.limit < (fitL q l).length - q.since then q.since + q.limit else -1 := by
        unfold nextI restL
        rw [List.length_drop]
        by_cases c : q.since < (fitL q l).length ∧ q.limit < (fitL q l).length - q.since
        · rw [if_pos c, if_pos (by omega)]
        · rw [if_neg c, if_neg (by omega)]
      have HLL := Lib.hid (St.le_trans HLE.out hg.le.2)
      clear hg oq o4 o5 hfr1
      obtain ⟨n, hnn⟩ : ∃ n, n = (fitL q l).length := ⟨_, rfl⟩
      have HNX := Lib.hid hnx
      have HNN := Lib.hid hnn
      rw [← hnn] at hn HNX ⊢
      clear hnx hnn
      have fin : ∀ (nx pv : Int), nextI q l = nx → prevI q = pv → D.Le (.tup [.agg [dl, .i n, .i nx, .i pv], .agg ErT.none.d]) (.tup [ansD q l, .agg ErT.none.d]) := by
        rintro nx pv rfl rfl
        rw [ansD, ← HNN.out]
        exact .tupL (.cons (.aggL (.cons HLS.out (.cons (.refl _) (.cons (.refl _) (.cons (.refl _) .nil))))) (.cons (.refl _) .nil))
      by_cases c1 : q.since < n
      · by_cases c2 : q.limit < n - q.since
        · by_cases s0 : 0 < q.since
          · refine' wlk0
            (refine awp_draw (fun KS EG hK hP => ?_); refine draw_rule rfl [(0, false), (1, false)] [] [2, 3] (by kernel_rfl) ?_; refine' dqs1 noneT)
            refine' wlk0
            ((try simp [*]); (try simp (discharger := omega) only [wrap_i64, dec_t, dec_f]))
            exact .mk _ σ (fin (q.since + q.limit) (max 0 (q.since - q.limit)) (by rw [HNX.out, if_pos ⟨c1, c2⟩]) (if_pos s0)) leT ⟨rfl, rfl⟩
          · refine' wlk0
            (refine awp_draw (fun KS EG hK hP => ?_); refine draw_rule rfl [(0, false), (1, false)] [] [2, 3] (by kernel_rfl) ?_; refine' dqs1 noneT)
            refine' wlk0
            ((try simp [*]); (try simp (discharger := omega) only [wrap_i64, dec_t, dec_f]))
            exact .mk _ σ (fin (q.since + q.limit) (-1) (by rw [HNX.out, if_pos ⟨c1, c2⟩]) (if_neg s0)) leT ⟨rfl, rfl⟩
        · by_cases s0 : 0 < q.since
          · refine' wlk0
            (refine awp_draw (fun KS EG hK hP => ?_); refine draw_rule rfl [(0, false), (1, false)] [] [2, 3] (by kernel_rfl) ?_; refine' dqs1 noneT)
            refine' wlk0
            ((try simp [*]); (try simp (discharger := omega) only [wrap_i64, dec_t, dec_f]))
            exact .mk _ σ (fin (-1) (max 0 (q.since - q.limit)) (by rw [HNX.out, if_neg (fun h => c2 h.2)]) (if_pos s0)) leT ⟨rfl, rfl⟩
          · refine' wlk0
            (refine awp_draw (fun KS EG hK hP => ?_); refine draw_rule rfl [(0, false), (1, false)] [] [2, 3] (by kernel_rfl) ?_; refine' dqs1 noneT)
            refine' wlk0
            ((try simp [*]); (try simp (discharger := omega) only [wrap_i64, dec_t, dec_f]))
            exact .mk _ σ (fin (-1) (-1) (by rw [HNX.out, if_neg (fun h => c2 h.2)]) (if_neg s0)) leT ⟨rfl, rfl⟩
      · by_cases s0 : 0 < q.since
        · refine' wlk0
          (refine awp_draw (fun KS EG hK hP => ?_); refine draw_rule rfl [(0, false), (1, false)] [] [2, 3] (by kernel_rfl) ?_; refine' dqs1 noneT)
          refine' wlk0
          ((try simp [*]); (try simp (discharger := omega) only [wrap_i64, dec_t, dec_f]))
          exact .mk _ σ (fin (-1) (max 0 (q.since - q.limit)) (by rw [HNX.out, if_neg (fun h => c1 h.1)]) (if_pos s0)) leT ⟨rfl, rfl⟩
        · refine' wlk0
          (refine awp_draw (fun KS EG hK hP => ?_); refine draw_rule rfl [(0, false), (1, false)] [] [2, 3] (by kernel_rfl) ?_; refine' dqs1 noneT)
          refine' wlk0
          ((try simp [*]); (try simp (discharger := omega) only [wrap_i64, dec_t, dec_f]))
          exact .mk _ σ (fin (-1) (-1) (by rw [HNX.out, if_neg (fun h => c1 h.1)]) (if_neg s0)) leT ⟨rfl, rfl⟩
end Go.Proofs.YtmpbofmhjjgccaaDoor
/-
  '==' of summaries; whether an answer is the document's; a question that can't be; whether a summary fits.
-/
namespace Go.Proofs.YtmpbofmhjjgccaaDoor
open Go.RowKit
set_option maxRecDepth 100000
set_option linter.unusedVariables false
set_option linter.unusedSimpArgs false
attribute [local irreducible] awp aops aop aput aseq ablock TriX Tri Ret Fresh dq adraw dtail dals dfin Wk
attribute [local simp] SVd ErT.d

theorem SV_ext {x y : SV} (h : x.cells = y.cells) : x = y := by
  cases x; cases y
  simp only [SV.cells, List.cons.injEq, Value.string.injEq, Value.int.injEq, Value.bool.injEq, true_and, and_true] at h
  obtain ⟨h1, h2, h3, h4, h5, h6, h7, h8, h9, h10⟩ := h
  subst h1 h2 h3 h4 h5 h6 h7 h8 h9 h10
  rfl
noncomputable instance : DecidableEq SV := fun x y => Classical.propDecidable _
set_option maxHeartbeats 4000000 in
theorem eqS15 (x y : SV) : AggEq Tryd.prog 47 (SVd x) (SVd y) (decide (x = y)) := by
  refine ⟨x.cells, y.cells, rfl, rfl, by kernel_rfl, fun w => ?_⟩
  rw [show (10000 : Nat) = 9999 + 1 from rfl, run_equalIn_agg w 9999 _ _ _ (by kernel_rfl) (by kernel_rfl)]
  simp only [Program.fieldsOf, Tryd.underlying47]
  unfold SV.cells
  go_simp
  by_cases h : x = y
  · subst h
    simp
  · rw [decide_eq_false h]
    repeat' (first | rfl | split)
    exfalso
    rename_i h1 h2 h3 h4 h5 h6 h7 h8 h9 h10
    have bl : ∀ {a b : ByteArray}, a.toList = b.toList → a = b := fun h => by
      rw [ByteArray.toList_eq, ByteArray.toList_eq] at h
      exact WideShapes.bytes_inj h
    refine h (SV_ext ?_)
    unfold SV.cells
    rw [bl h1, bl h2, bl h3, bl h4, bl h5, bl h6, bl h7, h8, h9, h10]
theorem eqS15_t (x : SV) : AggEq Tryd.prog 47 (SVd x) (SVd x) true := by
  have := eqS15 x x
  rwa [decide_eq_true rfl] at this
theorem eqE21 (x : ErT) : AggEq Tryd.prog 41 x.d x.d true := by
  refine ⟨[.int .i64 x.code, .int .i64 x.at_, .string x.path], [.int .i64 x.code, .int .i64 x.at_, .string x.path], rfl, rfl, by kernel_rfl, fun w => ?_⟩
  rw [show (10000 : Nat) = 9999 + 1 from rfl, run_equalIn_agg w 9999 _ _ _ (by kernel_rfl) (by kernel_rfl)]
  simp only [Program.fieldsOf, Tryd.underlying41]
  go_simp
  try simp
set_option maxHeartbeats 4000000 in
theorem isAnsT (P : List SV) (n nx pv : Int) (σ : St) (hP : P.length ≤ 1000) : Tri Tryd.prog 11 [.agg [.lst false 10 (P.map SVd), .i n, .i nx, .i pv], .agg [.lst false 10 (P.map SVd), .i n, .i nx, .i pv]] σ fun d τ => d = .b true ∧ τ = σ := by
  refine tri_fn Tryd.func11 rfl Tryd.ntmps11 Tryd.results11 (Nat.le_of_ble_eq_true rfl) ?_
  refine' wlk0
  refine' gen2S
  refine awp_loopM [4, 5, 6, 38, 39, 40, 41, 42, 43, 44, 45, 46, 47, 48, 49, 50, 51] (fun X τ => ∃ k : Nat, k ≤ P.length ∧ X 38 = .i k ∧ τ = σ1) (fun X _ => P.length - (X 38).int.toNat) ?_ ?_
  · refine .same ⟨mix_self _ _, 0, by omega, ?_, rfl⟩
    simp [*]
  · rintro X τ ⟨k, hk, h38, rfl⟩ _ hL
    by_cases hlt : k < P.length
    · have EQ := Lib.hid (eqS15_t P[k])
      refine' wlk0
      (refine awp_draw (fun KS EG hK hP => ?_); refine draw_rule rfl [(0, false), (1, false), (2, true), (3, false), (4, true), (5, true), (6, false), (7, true)] [] [] (by kernel_rfl) ?_; repeat (first | ((first | refine dq_pu rfl ?_ | refine dq_rd rfl ?_ | (refine dq_gTp rfl rfl ?_ ?_; (focus (simp [*]; done))) | (refine dq_gTr rfl rfl ?_ ?_; (focus (simp [*]; done)))); constructor; refine And.intro (fun _ _ hO => ?_) ?_; (focus (simp [*]; (try simp (discharger := omega) only [wrap_i64, dec_t, dec_f]); (first | ((try (first | refine .inl ⟨?_, by omega, by omega⟩ | refine ⟨by omega, by omega, ?_⟩ | refine ⟨by omega, ?_⟩ | refine .inl ?_)); exact hO.out _ _ (.refl _) (St.le_refl _)) | ((first | refine Tri.call (refOneT P[k] _) ?_ | refine Tri.call (EQ.out) ?_); rintro _ _ ⟨rfl, h9⟩; replace h9 := h9.symm; subst h9; exact hO.out _ _ (.refl _) (St.le_refl _)) | exact .inr ⟨(refOneT P[k] _), hO.out _ _ (.refl _) (St.le_refl _)⟩ | exact .inl ⟨(refOneT P[k] _), hO.out _ _ (.refl _) (St.le_refl _)⟩ | exact ⟨_, (refOneT P[k] _), hO.out _ _ (.refl _) (St.le_refl _)⟩ | exact .inr ⟨(EQ.out), hO.out _ _ (.refl _) (St.le_refl _)⟩ | exact .inl ⟨(EQ.out), hO.out _ _ (.refl _) (St.le_refl _)⟩ | exact ⟨_, (EQ.out), hO.out _ _ (.refl _) (St.le_refl _)⟩))); (first | refine aput_some (by decide) ?_ | refine aput_none ?_)) | ((first | (refine dq_gF rfl rfl ?_ ?_; (focus (simp [*]; done))) | (refine dq_gU rfl rfl ?_ ?_; (focus (simp [*]; done)))); (first | refine aput_some (by decide) ?_ | refine aput_none ?_)) | refine dq_nil ?_ | refine dtail_none ?_ | refine dtail_some ?_ | refine dals_alloc rfl (by decide) (by simp; rfl) ?_ | refine dals_box rfl (by decide) (by simp [*]; rfl) ?_  | (refine dals_arrO rfl (by decide) (by first | rfl | simp) (by simp) (by intro σ'; simp [*]; exact refOneT P[k] _ σ') (by first | assumption | simp) ?_) | (refine dals_arrO rfl (by decide) (by first | rfl | simp) (by simp) (by intro σ'; simp [*]; exact EQ.out σ') (by first | assumption | simp) ?_) | refine dals_nil ?_ | refine dfin_nil ?_ | (refine dfin_cons rfl ?_; simp only [fresh_set, ne_eq, and_assoc]; intro b8 c8 hf8 hc8; (try subst hc8); (repeat (obtain ⟨_, hf8⟩ := hf8))) | (refine aops_idx rfl (fun K9 hO => ?_); simp [*]; (try simp (discharger := omega) only [wrap_i64, dec_t, dec_f]); (first | ((try (first | refine .inl ⟨by omega, by omega, ?_⟩ | refine ⟨by omega, by omega, ?_⟩ | refine ⟨by omega, ?_⟩ | refine .inl ?_)); (first | (intro b; intros; refine hO.out _ _ ?_) | refine hO.out _ _ ?_)) | ((first | refine Tri.call (refOneT P[k] _) ?_ | refine Tri.call (EQ.out) ?_); (first | rintro _ _ ⟨rfl, h9⟩; replace h9 := h9.symm; subst h9 | rintro _ _ ⟨_, rfl, rfl⟩ | rintro _ _ ⟨_, _, rfl, rfl⟩ | rintro _ _ ⟨_, _, _, rfl, rfl⟩); refine hO.out _ _ ?_)); clear hO; (try clear K9); (first | refine aput_some (by decide) ?_ | refine aput_none ?_)) | refine aops_end ?_ | ((repeat ((fail_if_success (refine hK.out _ _ ?_)); clear hK; (try clear hP EG); (try clear KS))); refine hK.out _ _ ?_; clear hK; (try clear hP EG); try clear KS)))
      refine' wlk0
      refine hL.out _ _ (.less τ leT (.same ⟨mixT, ⟨k + 1, by omega, ?_, rfl⟩, ?_⟩))
      · simp [*]
      · simp [*, D.int]; omega
    · have hke : k = P.length := by omega
      subst hke
      refine' wlk0
      ((try simp [*]); (try simp (discharger := omega) only [wrap_i64, dec_t, dec_f]))
      exact .mk _ σ (.refl _) leT ⟨rfl, rfl⟩
set_option maxHeartbeats 4000000 in
theorem findBad1T (a : ByteArray) (dl dt : D) (li si : Int) (σ : St) (h : li < 1 ∨ 50 < li) : Tri Tryd.prog 6 [dl, .agg [.s a, dt, .i li, .i si]] σ fun d τ => d = .tup [noAnsD, (Er.fault (-1) limitB (.code 8)).d] ∧ τ = σ := by
  refine tri_fn Tryd.func6 rfl Tryd.ntmps6 Tryd.results6 (Nat.le_of_ble_eq_true rfl) ?_
  by_cases h1 : li < 1
  · clear h
    refine' wlk0
    ((try simp [*]); (try simp (discharger := omega) only [wrap_i64, dec_t, dec_f]))
    rename_i b1 _ b2 _ _ _ _ _ _ _ _
    exact Ret.freeze b (x := .box 55 [.i (-1), .s limitB, (Er.code 8).d]) (by simp [*]; exact ⟨rfl, rfl⟩) trivial _ ((Fz.iface _ _ _ (.box _ _ 0 rfl)).tupAt [_] [])
      (.mk _ σ (.tupL (.cons (.aggL (.cons (.nil false 10) (.cons (.refl _) (.cons (.refl _) (.cons (.refl _) .nil))))) (.cons (.refl _) .nil))) leT ⟨rfl, rfl⟩)
  · have h2 : 50 < li := by omega
    clear h
    refine' wlk0
    ((try simp [*]); (try simp (discharger := omega) only [wrap_i64, dec_t, dec_f]))
    rename_i b1 _ b2 _ _ _ _ _ _ _ _
    exact Ret.freeze b (x := .box 55 [.i (-1), .s limitB, (Er.code 8).d]) (by simp [*]; exact ⟨rfl, rfl⟩) trivial _ ((Fz.iface _ _ _ (.box _ _ 0 rfl)).tupAt [_] [])
      (.mk _ σ (.tupL (.cons (.aggL (.cons (.nil false 10) (.cons (.refl _) (.cons (.refl _) (.cons (.refl _) .nil))))) (.cons (.refl _) .nil))) leT ⟨rfl, rfl⟩)
set_option maxHeartbeats 4000000 in
theorem findBad2T (a : ByteArray) (dl dt : D) (li si : Int) (σ : St) (h1 : 1 ≤ li) (h2 : li ≤ 50) (h3 : si < 0) : Tri Tryd.prog 6 [dl, .agg [.s a, dt, .i li, .i si]] σ fun d τ => d = .tup [noAnsD, (Er.fault (-1) sinceB (.code 8)).d] ∧ τ = σ := by
  refine tri_fn Tryd.func6 rfl Tryd.ntmps6 Tryd.results6 (Nat.le_of_ble_eq_true rfl) ?_
  refine' wlk0
  ((try simp [*]); (try simp (discharger := omega) only [wrap_i64, dec_t, dec_f]))
  rename_i b1 _ b2 _ _ _ _ _ _ _ _
  exact Ret.freeze b (x := .box 55 [.i (-1), .s sinceB, (Er.code 8).d]) (by simp [*]; exact ⟨rfl, rfl⟩) trivial _ ((Fz.iface _ _ _ (.box _ _ 0 rfl)).tupAt [_] [])
    (.mk _ σ (.tupL (.cons (.aggL (.cons (.nil false 10) (.cons (.refl _) (.cons (.refl _) (.cons (.refl _) .nil))))) (.cons (.refl _) .nil))) leT ⟨rfl, rfl⟩)
set_option maxHeartbeats 4000000 in
theorem refBad1T (a : ByteArray) (dl dt : D) (li si : Int) (σ : St) (h : li < 1 ∨ 50 < li) : Tri Tryd.prog 9 [dl, .agg [.s a, dt, .i li, .i si]] σ fun d τ => d = .tup [noAnsD, .agg (ErT.in_ limitB (ErT.err 8)).d] ∧ τ = σ := by
  have IN := Lib.hid (inT limitB (ErT.err 8) · (by decide))
  refine tri_fn Tryd.func9 rfl Tryd.ntmps9 Tryd.results9 (Nat.le_of_ble_eq_true rfl) ?_
  by_cases h1 : li < 1
  · clear h
    refine' wlk2 (errT 8) IN.out
    ((try simp [*]); (try simp (discharger := omega) only [wrap_i64, dec_t, dec_f]))
    exact .mk _ σ (.tupL (.cons (.aggL (.cons (.nil false 10) (.cons (.refl _) (.cons (.refl _) (.cons (.refl _) .nil))))) (.cons (.refl _) .nil))) leT ⟨rfl, rfl⟩
  · have h2 : 50 < li := by omega
    clear h
    refine' wlk2 (errT 8) IN.out
    ((try simp [*]); (try simp (discharger := omega) only [wrap_i64, dec_t, dec_f]))
    exact .mk _ σ (.tupL (.cons (.aggL (.cons (.nil false 10) (.cons (.refl _) (.cons (.refl _) (.cons (.refl _) .nil))))) (.cons (.refl _) .nil))) leT ⟨rfl, rfl⟩
set_option maxHeartbeats 4000000 in
theorem refBad2T (a : ByteArray) (dl dt : D) (li si : Int) (σ : St) (h1 : 1 ≤ li) (h2 : li ≤ 50) (h3 : si < 0) : Tri Tryd.prog 9 [dl, .agg [.s a, dt, .i li, .i si]] σ fun d τ => d = .tup [noAnsD, .agg (ErT.in_ sinceB (ErT.err 8)).d] ∧ τ = σ := by
  have IN := Lib.hid (inT sinceB (ErT.err 8) · (by decide))
  refine tri_fn Tryd.func9 rfl Tryd.ntmps9 Tryd.results9 (Nat.le_of_ble_eq_true rfl) ?_
  refine' wlk2 (errT 8) IN.out
  ((try simp [*]); (try simp (discharger := omega) only [wrap_i64, dec_t, dec_f]))
  exact .mk _ σ (.tupL (.cons (.aggL (.cons (.nil false 10) (.cons (.refl _) (.cons (.refl _) (.cons (.refl _) .nil))))) (.cons (.refl _) .nil))) leT ⟨rfl, rfl⟩
end Go.Proofs.YtmpbofmhjjgccaaDoor
/-
  errors.Is at two codes: it tells whether they are one.
-/
namespace Go.Proofs.YtmpbofmhjjgccaaDoor
open Go.RowKit Go.Extern.Stop Go.Stop Go.Extern
set_option linter.unusedVariables false
section
variable {P : Program} (w : World)
theorem run_equalIn_iface_int (d : Nat) {ti tn : TypeId} {ms : Array (String × TypeId)} {i : TypeInfo} {k : IntKind} (a b : Int)
    (hi : P.underlying ti = some (.interface ms)) (hn : P.underlying tn = some (.int k)) (hinfo : P.info? tn = some i) (hcomp : i.comparable = true) :
    (Op.equalIn (d + 2) ti (.iface tn (.int k a)) (.iface tn (.int k b))).run P w = .ok (a == b) w := by
  simp [Op.equalIn, run_underlying hi, run_underlying hn, typeInfo, hinfo, hcomp]
/-- 'x == y', both interface values of one integer type: as the numbers are. -/
theorem run_eql_iface_int {ti tn : TypeId} {ms : Array (String × TypeId)} {i : TypeInfo} {k : IntKind} (a b : Int)
    (hi : P.underlying ti = some (.interface ms)) (hn : P.underlying tn = some (.int k)) (hinfo : P.info? tn = some i) (hcomp : i.comparable = true) :
    (binOp .eql ti (.iface tn (.int k a)) (.iface tn (.int k b))).run P w = .ok (.bool (a == b)) w := by
  simp only [binOp]
  simp [Op.equal, Op.maxDepth, run_equalIn_iface_int w 9998 a b hi hn hinfo hcomp]
end

theorem info_code : (Tryd.prog.info? 53).map (·.comparable) = some true := by kernel_rfl
theorem code_eql (a b : Int) (w : World) : (binOp .eql 32 (.iface 53 (.int .i64 a)) (.iface 53 (.int .i64 b))).run Tryd.prog w = .ok (.bool (a == b)) w := by
  cases hi : Tryd.prog.info? 53 with
  | none => have h := info_code; rw [hi] at h; cases h
  | some i =>
    have h := info_code
    rw [hi] at h
    exact run_eql_iface_int w a b Tryd.underlying32 Tryd.underlying53 hi (by simpa using h)

theorem noUnwrap_code (v : Value) (w : World) : (Instr.typeAssert (.iface 53 v) 32 97 true).run Tryd.prog w = .ok (.tuple #[.nilIface, .bool false]) w := run_typeAssert_lacksB Tryd.underlying97 (by kernel_rfl) (by kernel_rfl) v _ w
theorem noUnwraps_code (v : Value) (w : World) : (Instr.typeAssert (.iface 53 v) 32 99 true).run Tryd.prog w = .ok (.tuple #[.nilIface, .bool false]) w := run_typeAssert_lacksB Tryd.underlying99 (by kernel_rfl) (by kernel_rfl) v _ w

theorem typeOf_code (v : Value) (w : World) : (ReflectliteType.typeOf #[.iface 53 v]).run Tryd.prog w = .ok (.iface 89 (.agg #[.pointer (some ⟨2, 53, none⟩)])) w := by kernel_rfl

theorem method_comparable (h : Value) (w : World) : (Go.method 248 89 (.agg #[h]) "Comparable").run Tryd.prog w = .ok (74, .agg #[h]) w := by kernel_rfl
theorem comparable_code (w : World) : ((ReflectliteType.method fun t => do Rtype.noPackHeld "Comparable" t; (fun a : TypeInfo => Value.bool a.comparable) <$> typeInfo t) #[.agg #[.pointer (some ⟨2, 53, none⟩)]]).run Tryd.prog w = .ok (.bool true) w := by kernel_rfl

end Go.Proofs.YtmpbofmhjjgccaaDoor
/-
  errors.As at a code: into a *api.Code it is laid, into a **api.Fault it isn't.
-/
namespace Go.Proofs.YtmpbofmhjjgccaaDoor
open Go.RowKit Go.Extern.Stop Go.Stop Go.Extern
set_option linter.unusedVariables false
set_option linter.unusedSimpArgs false

theorem rlm (z : Sem Value) (f : TypeId → Addr → Nat → Nat → Sem Value) (v : Value) :
    ReflectliteValue.method z f #[v] = (do match ← ReflectliteValue.parts v with | none => z | some (t, a, fl) => f t a fl (fl % 32)) := rfl
theorem rls (v x : Value) : ReflectliteValue.set #[v, x] = (do
    let (some (dst, a, fl), some (src, b, _)) := (← ReflectliteValue.parts v, ← ReflectliteValue.parts x)
      | unsupported (.noEntry "extern/(internal/reflectlite.Value).Set.zeroValue")
    if fl / ReflectliteValue.flagAddr % 2 == 0 then unsupported (.noEntry "extern/(internal/reflectlite.Value).Set.unaddressable")
    let val ← loadVar src b
    if ← Rtype.directlyAssignable dst src then storeVar dst a val
    else if ← Rtype.implements dst src then
      if (← Rtype.kind src) == 20 then
        match val with
        | .nilIface => unsupported (.noEntry "extern/reflectlite: a nil value of one interface type handed on as a value of another")
        | _ => storeVar dst a val
      else storeVar dst a (.iface src val)
    else panicString ("reflectlite.Set: value of type " ++ (← Rtype.spelt src) ++ " is not assignable to type " ++ (← Rtype.spelt dst))
    pure (.tuple #[])) := rfl
theorem method_kind (h : Value) (w : World) : (Go.method 248 89 (.agg #[h]) "Kind").run Tryd.prog w = .ok (62, h) w := by kernel_rfl
theorem method_elem (h : Value) (w : World) : (Go.method 248 89 (.agg #[h]) "Elem").run Tryd.prog w = .ok (75, .agg #[h]) w := by kernel_rfl
theorem method_implements (h : Value) (w : World) : (Go.method 248 89 (.agg #[h]) "Implements").run Tryd.prog w = .ok (76, .agg #[h]) w := by kernel_rfl
theorem method_assignable (h : Value) (w : World) : (Go.method 248 89 (.agg #[h]) "AssignableTo").run Tryd.prog w = .ok (73, .agg #[h]) w := by kernel_rfl
theorem noAs_code (v : Value) (w : World) : (Instr.typeAssert (.iface 53 v) 32 94 true).run Tryd.prog w = .ok (.tuple #[.nilIface, .bool false]) w := run_typeAssert_lacksB Tryd.underlying94 (by kernel_rfl) (by kernel_rfl) v _ w

/-- What the package keeps: the type of error. -/
def ErrT (w : World) : Prop := w.cell? ⟨0, 0, none⟩ = some (.iface 89 (.agg #[.pointer (some ⟨2, 32, none⟩)]))
theorem ErrT.lt {w : World} (h : ErrT w) : 0 < w.heap.size := World.block_lt_of_cell? w ⟨0, 0, none⟩ h
theorem ErrT.below {w w' : World} (h : ErrT w) (hb : Below w.heap.size w w') : ErrT w' := (hb.cell (p := ⟨0, 0, none⟩) h.lt).trans h

theorem as_nil (t : Value) (w : World) :
    Calls Tryd.prog 21 #[.nilIface, t] w fun e w' => e = .returned (.bool false) ∧ w = w' := by
  go_enter Tryd.func21, Tryd.ntmps21
  go_wp2_with fail
  go_ret
  exact ⟨rfl, rfl⟩

/-! ### The target's type code -/
theorem valueOf_code (t : Addr) (w : World) : (ReflectliteValue.unpack (.iface 62 (.pointer (some t)))).run Tryd.prog w
    = .ok (.agg #[.pointer (some ⟨2, 62, none⟩), .pointer (some ⟨w.heap.size, 0, none⟩), .int .u64 150]) (w.alloc (.cells #[.pointer (some t)] 62)) := by kernel_rfl
theorem type_code (a : Addr) (w : World) : (ReflectliteValue.methodAny (ReflectliteValue.valueError "reflectlite.Value.Type" 0) (fun t _ _ _ => ReflectliteType.toType t) #[.agg #[.pointer (some ⟨2, 62, none⟩), .pointer (some a), .int .u64 150]]).run Tryd.prog w
    = .ok (.iface 89 (.agg #[.pointer (some ⟨2, 62, none⟩)])) w := by kernel_rfl
theorem kind_code (w : World) : ((ReflectliteType.abiMethod fun t => (fun a : Nat => Value.int IntKind.u8 (a : Int)) <$> Rtype.kind t) #[.pointer (some ⟨2, 62, none⟩)]).run Tryd.prog w = .ok (.int .u8 22) w := by kernel_rfl
theorem kindE_code (w : World) : ((ReflectliteType.abiMethod fun t => (fun a : Nat => Value.int IntKind.u8 (a : Int)) <$> Rtype.kind t) #[.pointer (some ⟨2, 53, none⟩)]).run Tryd.prog w = .ok (.int .u8 2) w := by kernel_rfl
theorem parts_code (a : Addr) (w : World) : (ReflectliteValue.parts (.agg #[.pointer (some ⟨2, 62, none⟩), .pointer (some a), .int .u64 150])).run Tryd.prog w = .ok (some (62, a, 150)) w := by kernel_rfl
theorem isNil_code (a p : Addr) (W : World) (ha : W.cell? a = some (.pointer (some p))) :
    (ReflectliteValue.method (ReflectliteValue.valueError "reflectlite.Value.IsNil" 0) ReflectliteValue.isNil #[.agg #[.pointer (some ⟨2, 62, none⟩), .pointer (some a), .int .u64 150]]).run Tryd.prog W = .ok (.bool false) W := by
  rw [rlm]
  simp only [Sem.run_bind, parts_code, Result.andThen]
  simp [ReflectliteValue.isNil, loadVar, isAgg, underlying, Tryd.underlying62, ha, Result.andThen]
theorem elem_code (w : World) : (ReflectliteType.method ReflectliteType.elem #[.agg #[.pointer (some ⟨2, 62, none⟩)]]).run Tryd.prog w = .ok (.iface 89 (.agg #[.pointer (some ⟨2, 53, none⟩)])) w := by kernel_rfl
theorem implements_code (w : World) : (ReflectliteType.relation "Implements" ReflectliteType.implements_ #[.agg #[.pointer (some ⟨2, 53, none⟩)], .iface 89 (.agg #[.pointer (some ⟨2, 32, none⟩)])]).run Tryd.prog w = .ok (.bool true) w := by kernel_rfl
theorem elemOf_code (w : World) : (Rtype.elem? 62).run Tryd.prog w = .ok (some 53) w := by kernel_rfl
theorem mk_code (p : Addr) (w : World) : (ReflectliteValue.mk 53 p ReflectliteValue.flagAddr).run Tryd.prog w = .ok (.agg #[.pointer (some ⟨2, 53, none⟩), .pointer (some p), .int .u64 386]) w := by kernel_rfl
theorem elemV_code (a p : Addr) (W : World) (ha : W.cell? a = some (.pointer (some p))) :
    (ReflectliteValue.method (ReflectliteValue.valueError "reflectlite.Value.Elem" 0) ReflectliteValue.elem #[.agg #[.pointer (some ⟨2, 62, none⟩), .pointer (some a), .int .u64 150]]).run Tryd.prog W
      = .ok (.agg #[.pointer (some ⟨2, 53, none⟩), .pointer (some p), .int .u64 386]) W := by
  rw [rlm]
  simp only [Sem.run_bind, parts_code, Result.andThen]
  simp [ReflectliteValue.elem, loadVar, isAgg, underlying, Tryd.underlying62, ha, Result.andThen, elemOf_code, mk_code]

theorem typeOfE_code (v : Value) (w : World) : (ReflectliteType.typeOf #[.iface 53 v]).run Tryd.prog w = .ok (.iface 89 (.agg #[.pointer (some ⟨2, 53, none⟩)])) w := by kernel_rfl
theorem assign_code (w : World) : (ReflectliteType.relation "AssignableTo" ReflectliteType.assignableTo #[.agg #[.pointer (some ⟨2, 53, none⟩)], .iface 89 (.agg #[.pointer (some ⟨2, 53, none⟩)])]).run Tryd.prog w = .ok (.bool true) w := by kernel_rfl
theorem valueOfE_code (c : Int) (w : World) : (ReflectliteValue.unpack (.iface 53 (.int .i64 c))).run Tryd.prog w
    = .ok (.agg #[.pointer (some ⟨2, 53, none⟩), .pointer (some ⟨w.heap.size, 0, none⟩), .int .u64 130]) (w.alloc (.cells #[.int .i64 c] 53)) := by kernel_rfl
theorem partsA_code (a : Addr) (w : World) : (ReflectliteValue.parts (.agg #[.pointer (some ⟨2, 53, none⟩), .pointer (some a), .int .u64 386])).run Tryd.prog w = .ok (some (53, a, 386)) w := by kernel_rfl
theorem partsE_code (a : Addr) (w : World) : (ReflectliteValue.parts (.agg #[.pointer (some ⟨2, 53, none⟩), .pointer (some a), .int .u64 130])).run Tryd.prog w = .ok (some (53, a, 130)) w := by kernel_rfl
theorem direct_code (w : World) : (Rtype.directlyAssignable 53 53).run Tryd.prog w = .ok true w := by kernel_rfl
theorem set_code (ta b : Addr) (c : Int) (old : Value) (W : World) (hb : W.cell? b = some (.int .i64 c)) (ht : W.cell? ta = some old) (hf : W.frozen? ta = false) :
    (ReflectliteValue.set #[.agg #[.pointer (some ⟨2, 53, none⟩), .pointer (some ta), .int .u64 386], .agg #[.pointer (some ⟨2, 53, none⟩), .pointer (some b), .int .u64 130]]).run Tryd.prog W
      = .ok (.tuple #[]) (W.setCell ta (.int .i64 c)) := by
  rw [rls]
  simp only [Sem.run_bind, partsA_code, partsE_code, Result.andThen]
  simp [ReflectliteValue.flagAddr, loadVar, isAgg, underlying, Tryd.underlying53, hb, Result.andThen, direct_code, storeVar, Value.cells, storeCells, Addr.add]
  rw [run_store Tryd.prog W ta _ _ (by rfl)]
  simp [ht, hf]

set_option maxRecDepth 100000 in
set_option maxHeartbeats 4000000 in
theorem as_hit_code (c : Int) (t : Addr) (old : Value) (w : World) (hg : ErrT w) (ht0 : w.cell? t = some old) (hf0 : w.frozen? t = false) :
    Calls Tryd.prog 21 #[.iface 53 (.int .i64 c), .iface 62 (.pointer (some t))] w fun ev w' => ev = .returned (.bool true) ∧ w' = ((((w.alloc (.cells #[.pointer (some t)] 62)).alloc (.cells #[.pointer (some ⟨2, 62, none⟩), .pointer (some ⟨w.heap.size, 0, none⟩), .int .u64 150] 74)).alloc (.cells #[.pointer (some ⟨2, 62, none⟩), .pointer (some ⟨w.heap.size, 0, none⟩), .int .u64 150] 74)).alloc (.cells #[.int .i64 c] 53)).setCell t (.int .i64 c) := by
  have hVO := @run_callFunc_extern Tryd.prog 30 _ (fun args => ReflectliteValue.unpack (args.getD 0 (.tuple #[]))) Tryd.func30 (by kernel_rfl) (by kernel_rfl) (by kernel_rfl) (by kernel_rfl)
  have hVT := @run_callFunc_extern Tryd.prog 31 _ (ReflectliteValue.methodAny (ReflectliteValue.valueError "reflectlite.Value.Type" 0) (fun t _ _ _ => ReflectliteType.toType t)) Tryd.func31 (by kernel_rfl) (by kernel_rfl) (by kernel_rfl) (by kernel_rfl)
  have hVN := @run_callFunc_extern Tryd.prog 32 _ (ReflectliteValue.method (ReflectliteValue.valueError "reflectlite.Value.IsNil" 0) ReflectliteValue.isNil) Tryd.func32 (by kernel_rfl) (by kernel_rfl) (by kernel_rfl) (by kernel_rfl)
  have hK := @run_callFunc_extern Tryd.prog 62 _ (ReflectliteType.abiMethod fun t => do pure (.int .u8 (← Rtype.kind t))) Tryd.func62 (by kernel_rfl) (by kernel_rfl) (by kernel_rfl) (by kernel_rfl)
  have hE := @run_callFunc_extern Tryd.prog 75 _ (ReflectliteType.method ReflectliteType.elem) Tryd.func75 (by kernel_rfl) (by kernel_rfl) (by kernel_rfl) (by kernel_rfl)
  have hI := @run_callFunc_extern Tryd.prog 76 _ (ReflectliteType.relation "Implements" ReflectliteType.implements_) Tryd.func76 (by kernel_rfl) (by kernel_rfl) (by kernel_rfl) (by kernel_rfl)
  have hT := @run_callFunc_extern Tryd.prog 38 _ ReflectliteType.typeOf Tryd.func38 (by kernel_rfl) (by kernel_rfl) (by kernel_rfl) (by kernel_rfl)
  have hA := @run_callFunc_extern Tryd.prog 73 _ (ReflectliteType.relation "AssignableTo" ReflectliteType.assignableTo) Tryd.func73 (by kernel_rfl) (by kernel_rfl) (by kernel_rfl) (by kernel_rfl)
  have hVE := @run_callFunc_extern Tryd.prog 39 _ (ReflectliteValue.method (ReflectliteValue.valueError "reflectlite.Value.Elem" 0) ReflectliteValue.elem) Tryd.func39 (by kernel_rfl) (by kernel_rfl) (by kernel_rfl) (by kernel_rfl)
  have hVS := @run_callFunc_extern Tryd.prog 40 _ ReflectliteValue.set Tryd.func40 (by kernel_rfl) (by kernel_rfl) (by kernel_rfl) (by kernel_rfl)
  have mK := method_kind
  have mE := method_elem
  have mI := method_implements
  have mA := method_assignable
  have tO := typeOfE_code
  have aE := assign_code
  have vE := valueOfE_code
  have vP := valueOf_code
  have tP := type_code
  have kP := kind_code
  have kE := kindE_code
  have eP := elem_code
  have iE := implements_code
  have hlt := hg.lt
  have n8 := isNil_code ⟨w.heap.size, 0, none⟩ t ((w.alloc (.cells #[.pointer (some t)] 62)).alloc (.cells #[.pointer (some ⟨2, 62, none⟩), .pointer (some ⟨w.heap.size, 0, none⟩), .int .u64 150] 74)) (by simp)
  have hg2 : ((w.alloc (.cells #[.pointer (some t)] 62)).alloc (.cells #[.pointer (some ⟨2, 62, none⟩), .pointer (some ⟨w.heap.size, 0, none⟩), .int .u64 150] 74)).cell? ⟨0, 0, none⟩ = some (.iface 89 (.agg #[.pointer (some ⟨2, 32, none⟩)])) := by
    rw [World.cell?_alloc_lt _ _ ⟨0, 0, none⟩ (by simp), World.cell?_alloc_lt _ _ ⟨0, 0, none⟩ hlt]; exact hg
  have htl : t.block < w.heap.size := World.block_lt_of_cell? w t ht0
  have el := elemV_code ⟨w.heap.size, 0, none⟩ t (((w.alloc (.cells #[.pointer (some t)] 62)).alloc (.cells #[.pointer (some ⟨2, 62, none⟩), .pointer (some ⟨w.heap.size, 0, none⟩), .int .u64 150] 74)).alloc (.cells #[.pointer (some ⟨2, 62, none⟩), .pointer (some ⟨w.heap.size, 0, none⟩), .int .u64 150] 74)) (by rw [World.cell?_alloc_lt _ _ ⟨w.heap.size, 0, none⟩ (by simp; omega)]; simp)
  have st := set_code t ⟨w.heap.size + 1 + 1 + 1, 0, none⟩ c old ((((w.alloc (.cells #[.pointer (some t)] 62)).alloc (.cells #[.pointer (some ⟨2, 62, none⟩), .pointer (some ⟨w.heap.size, 0, none⟩), .int .u64 150] 74)).alloc (.cells #[.pointer (some ⟨2, 62, none⟩), .pointer (some ⟨w.heap.size, 0, none⟩), .int .u64 150] 74)).alloc (.cells #[.int .i64 c] 53))
    (by rw [World.cell?_alloc_at _ _ _ _ (by simp)]; rfl)
    (by rw [World.cell?_alloc_lt _ _ t (by simp; omega), World.cell?_alloc_lt _ _ t (by simp; omega), World.cell?_alloc_lt _ _ t (by simp; omega), World.cell?_alloc_lt _ _ t htl]; exact ht0)
    (by rw [World.frozen?_alloc_old _ _ t (by simp; omega), World.frozen?_alloc_old _ _ t (by simp; omega), World.frozen?_alloc_old _ _ t (by simp; omega), World.frozen?_alloc_old _ _ t (Nat.ne_of_lt htl)]; exact hf0)
  have HG := Lib.hid hg
  clear hg
  go_enter Tryd.func21, Tryd.ntmps21
  go_wp2
  refine wp_loop_rounds 1 ?_
  rw [rounds_succ]
  go_wp2
  go_ret
  exact ⟨rfl, rfl⟩

/-! ### The target's type fault -/
theorem valueOf_fault (t : Addr) (w : World) : (ReflectliteValue.unpack (.iface 63 (.pointer (some t)))).run Tryd.prog w
    = .ok (.agg #[.pointer (some ⟨2, 63, none⟩), .pointer (some ⟨w.heap.size, 0, none⟩), .int .u64 150]) (w.alloc (.cells #[.pointer (some t)] 63)) := by kernel_rfl
theorem type_fault (a : Addr) (w : World) : (ReflectliteValue.methodAny (ReflectliteValue.valueError "reflectlite.Value.Type" 0) (fun t _ _ _ => ReflectliteType.toType t) #[.agg #[.pointer (some ⟨2, 63, none⟩), .pointer (some a), .int .u64 150]]).run Tryd.prog w
    = .ok (.iface 89 (.agg #[.pointer (some ⟨2, 63, none⟩)])) w := by kernel_rfl
theorem kind_fault (w : World) : ((ReflectliteType.abiMethod fun t => (fun a : Nat => Value.int IntKind.u8 (a : Int)) <$> Rtype.kind t) #[.pointer (some ⟨2, 63, none⟩)]).run Tryd.prog w = .ok (.int .u8 22) w := by kernel_rfl
theorem kindE_fault (w : World) : ((ReflectliteType.abiMethod fun t => (fun a : Nat => Value.int IntKind.u8 (a : Int)) <$> Rtype.kind t) #[.pointer (some ⟨2, 52, none⟩)]).run Tryd.prog w = .ok (.int .u8 22) w := by kernel_rfl
theorem parts_fault (a : Addr) (w : World) : (ReflectliteValue.parts (.agg #[.pointer (some ⟨2, 63, none⟩), .pointer (some a), .int .u64 150])).run Tryd.prog w = .ok (some (63, a, 150)) w := by kernel_rfl
theorem isNil_fault (a p : Addr) (W : World) (ha : W.cell? a = some (.pointer (some p))) :
    (ReflectliteValue.method (ReflectliteValue.valueError "reflectlite.Value.IsNil" 0) ReflectliteValue.isNil #[.agg #[.pointer (some ⟨2, 63, none⟩), .pointer (some a), .int .u64 150]]).run Tryd.prog W = .ok (.bool false) W := by
  rw [rlm]
  simp only [Sem.run_bind, parts_fault, Result.andThen]
  simp [ReflectliteValue.isNil, loadVar, isAgg, underlying, Tryd.underlying63, ha, Result.andThen]
theorem elem_fault (w : World) : (ReflectliteType.method ReflectliteType.elem #[.agg #[.pointer (some ⟨2, 63, none⟩)]]).run Tryd.prog w = .ok (.iface 89 (.agg #[.pointer (some ⟨2, 52, none⟩)])) w := by kernel_rfl
theorem implements_fault (w : World) : (ReflectliteType.relation "Implements" ReflectliteType.implements_ #[.agg #[.pointer (some ⟨2, 52, none⟩)], .iface 89 (.agg #[.pointer (some ⟨2, 32, none⟩)])]).run Tryd.prog w = .ok (.bool true) w := by kernel_rfl
theorem elemOf_fault (w : World) : (Rtype.elem? 63).run Tryd.prog w = .ok (some 52) w := by kernel_rfl
theorem mk_fault (p : Addr) (w : World) : (ReflectliteValue.mk 52 p ReflectliteValue.flagAddr).run Tryd.prog w = .ok (.agg #[.pointer (some ⟨2, 52, none⟩), .pointer (some p), .int .u64 406]) w := by kernel_rfl
theorem elemV_fault (a p : Addr) (W : World) (ha : W.cell? a = some (.pointer (some p))) :
    (ReflectliteValue.method (ReflectliteValue.valueError "reflectlite.Value.Elem" 0) ReflectliteValue.elem #[.agg #[.pointer (some ⟨2, 63, none⟩), .pointer (some a), .int .u64 150]]).run Tryd.prog W
      = .ok (.agg #[.pointer (some ⟨2, 52, none⟩), .pointer (some p), .int .u64 406]) W := by
  rw [rlm]
  simp only [Sem.run_bind, parts_fault, Result.andThen]
  simp [ReflectliteValue.elem, loadVar, isAgg, underlying, Tryd.underlying63, ha, Result.andThen, elemOf_fault, mk_fault]

theorem noAssign_fault (w : World) : (ReflectliteType.relation "AssignableTo" ReflectliteType.assignableTo #[.agg #[.pointer (some ⟨2, 53, none⟩)], .iface 89 (.agg #[.pointer (some ⟨2, 52, none⟩)])]).run Tryd.prog w = .ok (.bool false) w := by kernel_rfl
set_option maxRecDepth 100000 in
set_option maxHeartbeats 4000000 in
theorem as_miss_fault (c : Int) (t : Addr) (old : Value) (w : World) (hg : ErrT w) (ht0 : w.cell? t = some old) :
    Calls Tryd.prog 21 #[.iface 53 (.int .i64 c), .iface 63 (.pointer (some t))] w fun ev w' => ev = .returned (.bool false) ∧ w' = (((w.alloc (.cells #[.pointer (some t)] 63)).alloc (.cells #[.pointer (some ⟨2, 63, none⟩), .pointer (some ⟨w.heap.size, 0, none⟩), .int .u64 150] 74)).alloc (.cells #[.pointer (some ⟨2, 63, none⟩), .pointer (some ⟨w.heap.size, 0, none⟩), .int .u64 150] 74)) := by
  have hVO := @run_callFunc_extern Tryd.prog 30 _ (fun args => ReflectliteValue.unpack (args.getD 0 (.tuple #[]))) Tryd.func30 (by kernel_rfl) (by kernel_rfl) (by kernel_rfl) (by kernel_rfl)
  have hVT := @run_callFunc_extern Tryd.prog 31 _ (ReflectliteValue.methodAny (ReflectliteValue.valueError "reflectlite.Value.Type" 0) (fun t _ _ _ => ReflectliteType.toType t)) Tryd.func31 (by kernel_rfl) (by kernel_rfl) (by kernel_rfl) (by kernel_rfl)
  have hVN := @run_callFunc_extern Tryd.prog 32 _ (ReflectliteValue.method (ReflectliteValue.valueError "reflectlite.Value.IsNil" 0) ReflectliteValue.isNil) Tryd.func32 (by kernel_rfl) (by kernel_rfl) (by kernel_rfl) (by kernel_rfl)
  have hK := @run_callFunc_extern Tryd.prog 62 _ (ReflectliteType.abiMethod fun t => do pure (.int .u8 (← Rtype.kind t))) Tryd.func62 (by kernel_rfl) (by kernel_rfl) (by kernel_rfl) (by kernel_rfl)
  have hE := @run_callFunc_extern Tryd.prog 75 _ (ReflectliteType.method ReflectliteType.elem) Tryd.func75 (by kernel_rfl) (by kernel_rfl) (by kernel_rfl) (by kernel_rfl)
  have hI := @run_callFunc_extern Tryd.prog 76 _ (ReflectliteType.relation "Implements" ReflectliteType.implements_) Tryd.func76 (by kernel_rfl) (by kernel_rfl) (by kernel_rfl) (by kernel_rfl)
  have hT := @run_callFunc_extern Tryd.prog 38 _ ReflectliteType.typeOf Tryd.func38 (by kernel_rfl) (by kernel_rfl) (by kernel_rfl) (by kernel_rfl)
  have hA := @run_callFunc_extern Tryd.prog 73 _ (ReflectliteType.relation "AssignableTo" ReflectliteType.assignableTo) Tryd.func73 (by kernel_rfl) (by kernel_rfl) (by kernel_rfl) (by kernel_rfl)
  have hVE := @run_callFunc_extern Tryd.prog 39 _ (ReflectliteValue.method (ReflectliteValue.valueError "reflectlite.Value.Elem" 0) ReflectliteValue.elem) Tryd.func39 (by kernel_rfl) (by kernel_rfl) (by kernel_rfl) (by kernel_rfl)
  have hVS := @run_callFunc_extern Tryd.prog 40 _ ReflectliteValue.set Tryd.func40 (by kernel_rfl) (by kernel_rfl) (by kernel_rfl) (by kernel_rfl)
  have mK := method_kind
  have mE := method_elem
  have mI := method_implements
  have mA := method_assignable
  have tO := typeOf_code
  have aE := noAssign_fault
  have vP := valueOf_fault
  have tP := type_fault
  have kP := kind_fault
  have kE := kindE_fault
  have eP := elem_fault
  have iE := implements_fault
  have h1 := noAs_code (.int .i64 c)
  have h2 := noUnwrap_code (.int .i64 c)
  have h3 := noUnwraps_code (.int .i64 c)
  have hlt := hg.lt
  have n8 := isNil_fault ⟨w.heap.size, 0, none⟩ t ((w.alloc (.cells #[.pointer (some t)] 63)).alloc (.cells #[.pointer (some ⟨2, 63, none⟩), .pointer (some ⟨w.heap.size, 0, none⟩), .int .u64 150] 74)) (by simp)
  have hg2 : ((w.alloc (.cells #[.pointer (some t)] 63)).alloc (.cells #[.pointer (some ⟨2, 63, none⟩), .pointer (some ⟨w.heap.size, 0, none⟩), .int .u64 150] 74)).cell? ⟨0, 0, none⟩ = some (.iface 89 (.agg #[.pointer (some ⟨2, 32, none⟩)])) := by
    rw [World.cell?_alloc_lt _ _ ⟨0, 0, none⟩ (by simp), World.cell?_alloc_lt _ _ ⟨0, 0, none⟩ hlt]; exact hg
  have HG := Lib.hid hg
  clear hg
  go_enter Tryd.func21, Tryd.ntmps21
  go_wp2
  refine wp_loop_rounds 1 ?_
  rw [rounds_succ]
  go_wp2
  go_ret
  exact ⟨rfl, rfl⟩

end Go.Proofs.YtmpbofmhjjgccaaDoor
/-
  errors.As at a *api.Fault, into a **api.Fault: it is laid.
-/
namespace Go.Proofs.YtmpbofmhjjgccaaDoor
open Go.RowKit Go.Extern.Stop Go.Stop Go.Extern
set_option linter.unusedVariables false
set_option linter.unusedSimpArgs false

theorem typeOfE_fault (v : Value) (w : World) : (ReflectliteType.typeOf #[.iface 52 v]).run Tryd.prog w = .ok (.iface 89 (.agg #[.pointer (some ⟨2, 52, none⟩)])) w := by kernel_rfl
theorem assign_fault (w : World) : (ReflectliteType.relation "AssignableTo" ReflectliteType.assignableTo #[.agg #[.pointer (some ⟨2, 52, none⟩)], .iface 89 (.agg #[.pointer (some ⟨2, 52, none⟩)])]).run Tryd.prog w = .ok (.bool true) w := by kernel_rfl
theorem valueOfE_fault (e : Addr) (w : World) : (ReflectliteValue.unpack (.iface 52 (.pointer (some e)))).run Tryd.prog w
    = .ok (.agg #[.pointer (some ⟨2, 52, none⟩), .pointer (some ⟨w.heap.size, 0, none⟩), .int .u64 150]) (w.alloc (.cells #[.pointer (some e)] 52)) := by kernel_rfl
theorem partsA_fault (a : Addr) (w : World) : (ReflectliteValue.parts (.agg #[.pointer (some ⟨2, 52, none⟩), .pointer (some a), .int .u64 406])).run Tryd.prog w = .ok (some (52, a, 406)) w := by kernel_rfl
theorem partsE_fault (a : Addr) (w : World) : (ReflectliteValue.parts (.agg #[.pointer (some ⟨2, 52, none⟩), .pointer (some a), .int .u64 150])).run Tryd.prog w = .ok (some (52, a, 150)) w := by kernel_rfl
theorem direct_fault (w : World) : (Rtype.directlyAssignable 52 52).run Tryd.prog w = .ok true w := by kernel_rfl
theorem set_fault (ta b : Addr) (e : Addr) (old : Value) (W : World) (hb : W.cell? b = some (.pointer (some e))) (ht : W.cell? ta = some old) (hf : W.frozen? ta = false) :
    (ReflectliteValue.set #[.agg #[.pointer (some ⟨2, 52, none⟩), .pointer (some ta), .int .u64 406], .agg #[.pointer (some ⟨2, 52, none⟩), .pointer (some b), .int .u64 150]]).run Tryd.prog W
      = .ok (.tuple #[]) (W.setCell ta (.pointer (some e))) := by
  rw [rls]
  simp only [Sem.run_bind, partsA_fault, partsE_fault, Result.andThen]
  simp [ReflectliteValue.flagAddr, loadVar, isAgg, underlying, Tryd.underlying52, hb, Result.andThen, direct_fault, storeVar, Value.cells, storeCells, Addr.add]
  rw [run_store Tryd.prog W ta _ _ (by rfl)]
  simp [ht, hf]

set_option maxRecDepth 100000 in
set_option maxHeartbeats 4000000 in
theorem as_hit_fault (e : Addr) (t : Addr) (old : Value) (w : World) (hg : ErrT w) (ht0 : w.cell? t = some old) (hf0 : w.frozen? t = false) :
    Calls Tryd.prog 21 #[.iface 52 (.pointer (some e)), .iface 63 (.pointer (some t))] w fun ev w' => ev = .returned (.bool true) ∧ w' = ((((w.alloc (.cells #[.pointer (some t)] 63)).alloc (.cells #[.pointer (some ⟨2, 63, none⟩), .pointer (some ⟨w.heap.size, 0, none⟩), .int .u64 150] 74)).alloc (.cells #[.pointer (some ⟨2, 63, none⟩), .pointer (some ⟨w.heap.size, 0, none⟩), .int .u64 150] 74)).alloc (.cells #[.pointer (some e)] 52)).setCell t (.pointer (some e)) := by
  have hVO := @run_callFunc_extern Tryd.prog 30 _ (fun args => ReflectliteValue.unpack (args.getD 0 (.tuple #[]))) Tryd.func30 (by kernel_rfl) (by kernel_rfl) (by kernel_rfl) (by kernel_rfl)
  have hVT := @run_callFunc_extern Tryd.prog 31 _ (ReflectliteValue.methodAny (ReflectliteValue.valueError "reflectlite.Value.Type" 0) (fun t _ _ _ => ReflectliteType.toType t)) Tryd.func31 (by kernel_rfl) (by kernel_rfl) (by kernel_rfl) (by kernel_rfl)
  have hVN := @run_callFunc_extern Tryd.prog 32 _ (ReflectliteValue.method (ReflectliteValue.valueError "reflectlite.Value.IsNil" 0) ReflectliteValue.isNil) Tryd.func32 (by kernel_rfl) (by kernel_rfl) (by kernel_rfl) (by kernel_rfl)
  have hK := @run_callFunc_extern Tryd.prog 62 _ (ReflectliteType.abiMethod fun t => do pure (.int .u8 (← Rtype.kind t))) Tryd.func62 (by kernel_rfl) (by kernel_rfl) (by kernel_rfl) (by kernel_rfl)
  have hE := @run_callFunc_extern Tryd.prog 75 _ (ReflectliteType.method ReflectliteType.elem) Tryd.func75 (by kernel_rfl) (by kernel_rfl) (by kernel_rfl) (by kernel_rfl)
  have hI := @run_callFunc_extern Tryd.prog 76 _ (ReflectliteType.relation "Implements" ReflectliteType.implements_) Tryd.func76 (by kernel_rfl) (by kernel_rfl) (by kernel_rfl) (by kernel_rfl)
  have hT := @run_callFunc_extern Tryd.prog 38 _ ReflectliteType.typeOf Tryd.func38 (by kernel_rfl) (by kernel_rfl) (by kernel_rfl) (by kernel_rfl)
  have hA := @run_callFunc_extern Tryd.prog 73 _ (ReflectliteType.relation "AssignableTo" ReflectliteType.assignableTo) Tryd.func73 (by kernel_rfl) (by kernel_rfl) (by kernel_rfl) (by kernel_rfl)
  have hVE := @run_callFunc_extern Tryd.prog 39 _ (ReflectliteValue.method (ReflectliteValue.valueError "reflectlite.Value.Elem" 0) ReflectliteValue.elem) Tryd.func39 (by kernel_rfl) (by kernel_rfl) (by kernel_rfl) (by kernel_rfl)
  have hVS := @run_callFunc_extern Tryd.prog 40 _ ReflectliteValue.set Tryd.func40 (by kernel_rfl) (by kernel_rfl) (by kernel_rfl) (by kernel_rfl)
  have mK := method_kind
  have mE := method_elem
  have mI := method_implements
  have mA := method_assignable
  have tO := typeOfE_fault
  have aE := assign_fault
  have vE := valueOfE_fault
  have vP := valueOf_fault
  have tP := type_fault
  have kP := kind_fault
  have kE := kindE_fault
  have eP := elem_fault
  have iE := implements_fault
  have hlt := hg.lt
  have n8 := isNil_fault ⟨w.heap.size, 0, none⟩ t ((w.alloc (.cells #[.pointer (some t)] 63)).alloc (.cells #[.pointer (some ⟨2, 63, none⟩), .pointer (some ⟨w.heap.size, 0, none⟩), .int .u64 150] 74)) (by simp)
  have hg2 : ((w.alloc (.cells #[.pointer (some t)] 63)).alloc (.cells #[.pointer (some ⟨2, 63, none⟩), .pointer (some ⟨w.heap.size, 0, none⟩), .int .u64 150] 74)).cell? ⟨0, 0, none⟩ = some (.iface 89 (.agg #[.pointer (some ⟨2, 32, none⟩)])) := by
    rw [World.cell?_alloc_lt _ _ ⟨0, 0, none⟩ (by simp), World.cell?_alloc_lt _ _ ⟨0, 0, none⟩ hlt]; exact hg
  have htl : t.block < w.heap.size := World.block_lt_of_cell? w t ht0
  have el := elemV_fault ⟨w.heap.size, 0, none⟩ t (((w.alloc (.cells #[.pointer (some t)] 63)).alloc (.cells #[.pointer (some ⟨2, 63, none⟩), .pointer (some ⟨w.heap.size, 0, none⟩), .int .u64 150] 74)).alloc (.cells #[.pointer (some ⟨2, 63, none⟩), .pointer (some ⟨w.heap.size, 0, none⟩), .int .u64 150] 74)) (by rw [World.cell?_alloc_lt _ _ ⟨w.heap.size, 0, none⟩ (by simp; omega)]; simp)
  have st := set_fault t ⟨w.heap.size + 1 + 1 + 1, 0, none⟩ e old ((((w.alloc (.cells #[.pointer (some t)] 63)).alloc (.cells #[.pointer (some ⟨2, 63, none⟩), .pointer (some ⟨w.heap.size, 0, none⟩), .int .u64 150] 74)).alloc (.cells #[.pointer (some ⟨2, 63, none⟩), .pointer (some ⟨w.heap.size, 0, none⟩), .int .u64 150] 74)).alloc (.cells #[.pointer (some e)] 52))
    (by rw [World.cell?_alloc_at _ _ _ _ (by simp)]; rfl)
    (by rw [World.cell?_alloc_lt _ _ t (by simp; omega), World.cell?_alloc_lt _ _ t (by simp; omega), World.cell?_alloc_lt _ _ t (by simp; omega), World.cell?_alloc_lt _ _ t htl]; exact ht0)
    (by rw [World.frozen?_alloc_old _ _ t (by simp; omega), World.frozen?_alloc_old _ _ t (by simp; omega), World.frozen?_alloc_old _ _ t (by simp; omega), World.frozen?_alloc_old _ _ t (Nat.ne_of_lt htl)]; exact hf0)
  have HG := Lib.hid hg
  clear hg
  go_enter Tryd.func21, Tryd.ntmps21
  go_wp2
  refine wp_loop_rounds 1 ?_
  rw [rounds_succ]
  go_wp2
  go_ret
  exact ⟨rfl, rfl⟩

end Go.Proofs.YtmpbofmhjjgccaaDoor
/-
  errors.As, errors.Is at a chain of faults about a code.
-/
namespace Go.Proofs.YtmpbofmhjjgccaaDoor
open Go.RowKit Go.Extern.Stop Go.Stop Go.Extern
set_option maxRecDepth 100000
set_option linter.unusedVariables false
set_option linter.unusedSimpArgs false

theorem hasUnwrap_fault (p : Option Addr) (w : World) : (Instr.typeAssert (.iface 52 (.pointer p)) 32 97 true).run Tryd.prog w = .ok (.tuple #[.iface 52 (.pointer p), .bool true]) w := by kernel_rfl
theorem method_unwrap (p : Value) (w : World) : (Go.method 248 52 p "Unwrap").run Tryd.prog w = .ok (67, p) w := by kernel_rfl
def Er.depth : Er → Nat
  | .code _ => 0
  | .fault _ _ w => w.depth + 1
/-- What lies in a world as G has it. -/
def Holds (w : World) (G : Gh) : Prop := ∀ b o v, G b o = some v → w.cell? ⟨b, o, none⟩ = some v
theorem Er.d_iface' (e : Er) : ∃ t x, e.d = .iface t x := by cases e <;> exact ⟨_, _, rfl⟩
theorem er_code {G : Gh} {v : Value} {c : Int} (h : Rep G v (Er.code c).d) : v = .iface 53 (.int .i64 c) := by
  rw [Er.d] at h
  cases h with
  | iface _ x _ hr => rw [hr.v_inv]
theorem er_fault {G : Gh} {v : Value} {a : Int} {f : ByteArray} {e : Er} (h : Rep G v (Er.fault a f e).d) : ∃ b o x, v = .iface 52 (.pointer (some ⟨b, o, none⟩)) ∧ G b o = some (.int .i64 a) ∧ G b (o + 1) = some (.string f) ∧ G b (o + 2) = some x ∧ Rep G x e.d := by
  rw [Er.d] at h
  cases h with
  | iface _ x _ hr =>
    cases hr with
    | ptr ad _ vals hs hcell hrep =>
      obtain ⟨b, o, sp⟩ := ad
      simp only at hs
      subst hs
      have h0 := hrep 0 _ rfl
      have h1 := hrep 1 _ rfl
      have h2 := hrep 2 _ rfl
      have c0 := hcell 0 (by simp)
      have c1 := hcell 1 (by simp)
      have c2 := hcell 2 (by simp)
      rw [h0.v_inv] at c0
      rw [h1.v_inv] at c1
      exact ⟨b, o, _, rfl, c0, c1, c2, h2⟩
def clen (w : World) : Nat → Value → Nat
  | 0, _ => 0
  | n + 1, .iface _ (.pointer (some a)) => match w.cell? ⟨a.block, a.off + 2, none⟩ with
    | some x => clen w n x + 1
    | none => 0
  | _ + 1, _ => 0
theorem clen_er {w : World} {G : Gh} (hw : Holds w G) : ∀ (n : Nat) (e : Er) (v : Value), Rep G v e.d → e.depth ≤ n → clen w n v = e.depth
  | 0, .code c, v, h, _ => rfl
  | 0, .fault a f e, v, h, hn => by rw [Er.depth] at hn; omega
  | n + 1, .code c, v, h, _ => by rw [er_code h]; rfl
  | n + 1, .fault a f e, v, h, hn => by
    obtain ⟨b, o, x, rfl, _, _, h2, hx⟩ := er_fault h
    rw [Er.depth] at hn
    rw [clen]
    simp only [hw _ _ _ h2]
    rw [clen_er hw n e x hx (by omega), Er.depth]
theorem noAssignC_fault (w : World) : (ReflectliteType.relation "AssignableTo" ReflectliteType.assignableTo #[.agg #[.pointer (some ⟨2, 52, none⟩)], .iface 89 (.agg #[.pointer (some ⟨2, 53, none⟩)])]).run Tryd.prog w = .ok (.bool false) w := by kernel_rfl
theorem noAs_fault (v : Value) (w : World) : (Instr.typeAssert (.iface 52 v) 32 94 true).run Tryd.prog w = .ok (.tuple #[.nilIface, .bool false]) w := run_typeAssert_lacksB Tryd.underlying94 (by kernel_rfl) (by kernel_rfl) v _ w
set_option maxHeartbeats 4000000 in
theorem unwrap_cell (b o : Nat) (why : Value) (w : World) (c2 : w.cell? ⟨b, o + 2, none⟩ = some why) :
    Calls Tryd.prog 67 #[.pointer (some ⟨b, o, none⟩)] w fun ev w' => ev = .returned why ∧ w = w' := by
  go_enter Tryd.func67, Tryd.ntmps67
  go_wp2
  go_ret
  exact ⟨rfl, rfl⟩
theorem er_iface {G : Gh} {v : Value} {e : Er} (h : Rep G v e.d) : ∃ t x, v = .iface t x := by
  cases e with
  | code c => exact ⟨_, _, er_code h⟩
  | fault a f e => obtain ⟨b, o, x, rfl, _⟩ := er_fault h; exact ⟨_, _, rfl⟩
set_option maxHeartbeats 16000000 in
theorem as_code_chain (G : Gh) (e : Er) (v : Value) (t : Addr) (old : Value) (w : World) (hw : Holds w G) (hv : Rep G v e.d) (hg : ErrT w) (ht0 : w.cell? t = some old) (hf0 : w.frozen? t = false) :
    Calls Tryd.prog 21 #[v, .iface 62 (.pointer (some t))] w fun ev w' => ev = .returned (.bool true) ∧ w' = ((((w.alloc (.cells #[.pointer (some t)] 62)).alloc (.cells #[.pointer (some ⟨2, 62, none⟩), .pointer (some ⟨w.heap.size, 0, none⟩), .int .u64 150] 74)).alloc (.cells #[.pointer (some ⟨2, 62, none⟩), .pointer (some ⟨w.heap.size, 0, none⟩), .int .u64 150] 74)).alloc (.cells #[.int .i64 e.inner] 53)).setCell t (.int .i64 e.inner) := by
  obtain ⟨N, hN⟩ : ∃ N, N = e.depth := ⟨_, rfl⟩
  have HV := Lib.hid hv
  have HW := Lib.hid hw
  have HN := Lib.hid hN
  obtain ⟨c, hc⟩ : ∃ c, c = e.inner := ⟨_, rfl⟩
  rw [← hc]
  have HC := Lib.hid hc
  clear hN hw hc
  have hVO := @run_callFunc_extern Tryd.prog 30 _ (fun args => ReflectliteValue.unpack (args.getD 0 (.tuple #[]))) Tryd.func30 (by kernel_rfl) (by kernel_rfl) (by kernel_rfl) (by kernel_rfl)
  have hVT := @run_callFunc_extern Tryd.prog 31 _ (ReflectliteValue.methodAny (ReflectliteValue.valueError "reflectlite.Value.Type" 0) (fun t _ _ _ => ReflectliteType.toType t)) Tryd.func31 (by kernel_rfl) (by kernel_rfl) (by kernel_rfl) (by kernel_rfl)
  have hVN := @run_callFunc_extern Tryd.prog 32 _ (ReflectliteValue.method (ReflectliteValue.valueError "reflectlite.Value.IsNil" 0) ReflectliteValue.isNil) Tryd.func32 (by kernel_rfl) (by kernel_rfl) (by kernel_rfl) (by kernel_rfl)
  have hK := @run_callFunc_extern Tryd.prog 62 _ (ReflectliteType.abiMethod fun t => do pure (.int .u8 (← Rtype.kind t))) Tryd.func62 (by kernel_rfl) (by kernel_rfl) (by kernel_rfl) (by kernel_rfl)
  have hE := @run_callFunc_extern Tryd.prog 75 _ (ReflectliteType.method ReflectliteType.elem) Tryd.func75 (by kernel_rfl) (by kernel_rfl) (by kernel_rfl) (by kernel_rfl)
  have hI := @run_callFunc_extern Tryd.prog 76 _ (ReflectliteType.relation "Implements" ReflectliteType.implements_) Tryd.func76 (by kernel_rfl) (by kernel_rfl) (by kernel_rfl) (by kernel_rfl)
  have hT := @run_callFunc_extern Tryd.prog 38 _ ReflectliteType.typeOf Tryd.func38 (by kernel_rfl) (by kernel_rfl) (by kernel_rfl) (by kernel_rfl)
  have hA := @run_callFunc_extern Tryd.prog 73 _ (ReflectliteType.relation "AssignableTo" ReflectliteType.assignableTo) Tryd.func73 (by kernel_rfl) (by kernel_rfl) (by kernel_rfl) (by kernel_rfl)
  have hVE := @run_callFunc_extern Tryd.prog 39 _ (ReflectliteValue.method (ReflectliteValue.valueError "reflectlite.Value.Elem" 0) ReflectliteValue.elem) Tryd.func39 (by kernel_rfl) (by kernel_rfl) (by kernel_rfl) (by kernel_rfl)
  have hVS := @run_callFunc_extern Tryd.prog 40 _ ReflectliteValue.set Tryd.func40 (by kernel_rfl) (by kernel_rfl) (by kernel_rfl) (by kernel_rfl)
  have mK := method_kind
  have mE := method_elem
  have mI := method_implements
  have mA := method_assignable
  have vP := valueOf_code
  have tP := type_code
  have kP := kind_code
  have kE := kindE_code
  have eP := elem_code
  have iE := implements_code
  have hlt := hg.lt
  have n8 := isNil_code ⟨w.heap.size, 0, none⟩ t ((w.alloc (.cells #[.pointer (some t)] 62)).alloc (.cells #[.pointer (some ⟨2, 62, none⟩), .pointer (some ⟨w.heap.size, 0, none⟩), .int .u64 150] 74)) (by simp)
  have hg2 : ((w.alloc (.cells #[.pointer (some t)] 62)).alloc (.cells #[.pointer (some ⟨2, 62, none⟩), .pointer (some ⟨w.heap.size, 0, none⟩), .int .u64 150] 74)).cell? ⟨0, 0, none⟩ = some (.iface 89 (.agg #[.pointer (some ⟨2, 32, none⟩)])) := by
    rw [World.cell?_alloc_lt _ _ ⟨0, 0, none⟩ (by simp), World.cell?_alloc_lt _ _ ⟨0, 0, none⟩ hlt]; exact hg
  have htl : t.block < w.heap.size := World.block_lt_of_cell? w t ht0
  have el := elemV_code ⟨w.heap.size, 0, none⟩ t (((w.alloc (.cells #[.pointer (some t)] 62)).alloc (.cells #[.pointer (some ⟨2, 62, none⟩), .pointer (some ⟨w.heap.size, 0, none⟩), .int .u64 150] 74)).alloc (.cells #[.pointer (some ⟨2, 62, none⟩), .pointer (some ⟨w.heap.size, 0, none⟩), .int .u64 150] 74)) (by rw [World.cell?_alloc_lt _ _ ⟨w.heap.size, 0, none⟩ (by simp; omega)]; simp)
  have st := set_code t ⟨w.heap.size + 1 + 1 + 1, 0, none⟩ c old ((((w.alloc (.cells #[.pointer (some t)] 62)).alloc (.cells #[.pointer (some ⟨2, 62, none⟩), .pointer (some ⟨w.heap.size, 0, none⟩), .int .u64 150] 74)).alloc (.cells #[.pointer (some ⟨2, 62, none⟩), .pointer (some ⟨w.heap.size, 0, none⟩), .int .u64 150] 74)).alloc (.cells #[.int .i64 c] 53))
    (by rw [World.cell?_alloc_at _ _ _ _ (by simp)]; rfl)
    (by rw [World.cell?_alloc_lt _ _ t (by simp; omega), World.cell?_alloc_lt _ _ t (by simp; omega), World.cell?_alloc_lt _ _ t (by simp; omega), World.cell?_alloc_lt _ _ t htl]; exact ht0)
    (by rw [World.frozen?_alloc_old _ _ t (by simp; omega), World.frozen?_alloc_old _ _ t (by simp; omega), World.frozen?_alloc_old _ _ t (by simp; omega), World.frozen?_alloc_old _ _ t (Nat.ne_of_lt htl)]; exact hf0)
  have HG := Lib.hid hg
  obtain ⟨ty, y, rfl⟩ := er_iface hv
  clear hg hv
  go_enter Tryd.func21, Tryd.ntmps21
  go_wp2
  have HW3 : Holds (((w.alloc (.cells #[.pointer (some t)] 62)).alloc (.cells #[.pointer (some ⟨2, 62, none⟩), .pointer (some ⟨w.heap.size, 0, none⟩), .int .u64 150] 74)).alloc (.cells #[.pointer (some ⟨2, 62, none⟩), .pointer (some ⟨w.heap.size, 0, none⟩), .int .u64 150] 74)) G := fun b o x hx => by
    have h0 := HW.out b o x hx
    have h1 := World.block_lt_of_cell? w _ h0
    simp only at h1
    rw [World.cell?_alloc_lt _ _ ⟨b, o, none⟩ (by simp; omega), World.cell?_alloc_lt _ _ ⟨b, o, none⟩ (by simp; omega), World.cell?_alloc_lt _ _ ⟨b, o, none⟩ h1]
    exact h0
  have HW3 := Lib.hid HW3
  go_loopw [0] (fun i wr => wr = (((w.alloc (.cells #[.pointer (some t)] 62)).alloc (.cells #[.pointer (some ⟨2, 62, none⟩), .pointer (some ⟨w.heap.size, 0, none⟩), .int .u64 150] 74)).alloc (.cells #[.pointer (some ⟨2, 62, none⟩), .pointer (some ⟨w.heap.size, 0, none⟩), .int .u64 150] 74)) ∧ ∃ e' : Er, Rep G i e'.d ∧ e'.inner = c ∧ e'.depth ≤ N) (fun i _ => clen (((w.alloc (.cells #[.pointer (some t)] 62)).alloc (.cells #[.pointer (some ⟨2, 62, none⟩), .pointer (some ⟨w.heap.size, 0, none⟩), .int .u64 150] 74)).alloc (.cells #[.pointer (some ⟨2, 62, none⟩), .pointer (some ⟨w.heap.size, 0, none⟩), .int .u64 150] 74)) N i)
  case atStart => exact ⟨rfl, e, HV.out, HC.out.symm, by rw [HN.out]; exact Nat.le_refl _⟩
  obtain ⟨hwr, e', hr, hi, hd⟩ := hrel
  have HI := Lib.hid hi
  have HD := Lib.hid hd
  clear hi hd
  subst hwr
  cases e' with
  | code c' =>
    have hv := er_code hr
    clear hr
    have hcc : c' = c := HI.out
    subst hcc
    subst hv
    have tO := typeOfE_code
    have aE := assign_code
    have vE := valueOfE_code
    go_wp2
    go_ret
    exact ⟨rfl, rfl⟩
  | fault a f e1 =>
    obtain ⟨bb, o, x, hv, hc0, hc1, hc2, hx⟩ := er_fault hr
    have HR := Lib.hid hr
    clear hr hc0 hc1
    subst hv
    have tO := typeOfE_fault
    have aE := noAssignC_fault
    have h1 := noAs_fault (.pointer (some ⟨bb, o, none⟩))
    have h2 := hasUnwrap_fault (some ⟨bb, o, none⟩)
    have mU := method_unwrap (.pointer (some ⟨bb, o, none⟩))
    have hu := unwrap_cell bb o x (((w.alloc (.cells #[.pointer (some t)] 62)).alloc (.cells #[.pointer (some ⟨2, 62, none⟩), .pointer (some ⟨w.heap.size, 0, none⟩), .int .u64 150] 74)).alloc (.cells #[.pointer (some ⟨2, 62, none⟩), .pointer (some ⟨w.heap.size, 0, none⟩), .int .u64 150] 74)) (HW3.out _ _ _ hc2)
    clear hc2
    have HX := Lib.hid hx
    obtain ⟨ty', y', rfl⟩ := er_iface hx
    clear hx
    go_wp2_with fail
    refine hu.mono ?_
    rintro ev w' ⟨rfl, rfl⟩
    clear hu aE h1 h2 mU tO
    go_wp2_with fail
    have k1 := clen_er HW3.out N (.fault a f e1) _ HR.out HD.out
    have k2 := clen_er HW3.out N e1 _ HX.out (by have := HD.out; rw [Er.depth] at this; omega)
    refine ⟨⟨trivial, e1, HX.out, ?_, ?_⟩, ?_⟩
    · rw [← HI.out]; rfl
    · have := HD.out; rw [Er.depth] at this; omega
    · rw [k1, k2, Er.depth]; omega
theorem as_code_chain' (G : Gh) (e : Er) (v : Value) (b : Nat) (old : Value) (w : World) (hw : Holds w G) (hv : Rep G v e.d) (hg : ErrT w) (hb : w.heap[b]? = some (.cells #[old] 53 (0, 0))) :
    Calls Tryd.prog 21 #[v, .iface 62 (.pointer (some ⟨b, 0, none⟩))] w fun ev w' => ev = .returned (.bool true) ∧ w'.heap[b]? = some (.cells #[.int .i64 e.inner] 53 (0, 0)) ∧ w.grownBy w' (some b) := by
  have hlt : b < w.heap.size := (Array.getElem?_eq_some_iff.1 hb).1
  refine (as_code_chain G e v ⟨b, 0, none⟩ old w hw hv hg (by simp [World.cell?, hb]) (by simp [World.frozen?, hb])).mono ?_
  rintro ev w' ⟨rfl, rfl⟩
  refine ⟨rfl, ?_, ⟨rfl, rfl, rfl, by simp; omega, fun k hk hne => ?_⟩⟩
  · have h4 : ((((w.alloc (.cells #[.pointer (some ⟨b, 0, none⟩)] 62)).alloc (.cells #[.pointer (some ⟨2, 62, none⟩), .pointer (some ⟨w.heap.size, 0, none⟩), .int .u64 150] 74)).alloc (.cells #[.pointer (some ⟨2, 62, none⟩), .pointer (some ⟨w.heap.size, 0, none⟩), .int .u64 150] 74)).alloc (.cells #[.int .i64 e.inner] 53)).heap[b]? = some (.cells #[old] 53 (0, 0)) := by
      rw [heap_alloc_old _ _ (by simp; omega), heap_alloc_old _ _ (by simp; omega), heap_alloc_old _ _ (by simp; omega), heap_alloc_old _ _ hlt]
      exact hb
    have := heap_setCell_same _ b 0 #[old] 53 (.int .i64 e.inner) h4
    simpa using this
  · rw [heap_setCell_other _ _ _ _ (fun e => hne (by rw [e])), heap_alloc_old _ _ (by simp; omega), heap_alloc_old _ _ (by simp; omega), heap_alloc_old _ _ (by simp; omega), heap_alloc_old _ _ hk]
theorem as_hit_fault' (p : Addr) (b : Nat) (old : Value) (w : World) (hg : ErrT w) (hb : w.heap[b]? = some (.cells #[old] 52 (0, 0))) :
    Calls Tryd.prog 21 #[.iface 52 (.pointer (some p)), .iface 63 (.pointer (some ⟨b, 0, none⟩))] w fun ev w' => ev = .returned (.bool true) ∧ w'.heap[b]? = some (.cells #[.pointer (some p)] 52 (0, 0)) ∧ w.grownBy w' (some b) := by
  have hlt : b < w.heap.size := (Array.getElem?_eq_some_iff.1 hb).1
  refine (as_hit_fault p ⟨b, 0, none⟩ old w hg (by simp [World.cell?, hb]) (by simp [World.frozen?, hb])).mono ?_
  rintro ev w' ⟨rfl, rfl⟩
  refine ⟨rfl, ?_, ⟨rfl, rfl, rfl, by simp; omega, fun k hk hne => ?_⟩⟩
  · have h4 : ((((w.alloc (.cells #[.pointer (some ⟨b, 0, none⟩)] 63)).alloc (.cells #[.pointer (some ⟨2, 63, none⟩), .pointer (some ⟨w.heap.size, 0, none⟩), .int .u64 150] 74)).alloc (.cells #[.pointer (some ⟨2, 63, none⟩), .pointer (some ⟨w.heap.size, 0, none⟩), .int .u64 150] 74)).alloc (.cells #[.pointer (some p)] 52)).heap[b]? = some (.cells #[old] 52 (0, 0)) := by
      rw [heap_alloc_old _ _ (by simp; omega), heap_alloc_old _ _ (by simp; omega), heap_alloc_old _ _ (by simp; omega), heap_alloc_old _ _ hlt]
      exact hb
    have := heap_setCell_same _ b 0 #[old] 52 (.pointer (some p)) h4
    simpa using this
  · rw [heap_setCell_other _ _ _ _ (fun e => hne (by rw [e])), heap_alloc_old _ _ (by simp; omega), heap_alloc_old _ _ (by simp; omega), heap_alloc_old _ _ (by simp; omega), heap_alloc_old _ _ hk]
theorem as_miss_fault' (c : Int) (b : Nat) (old : Value) (w : World) (hg : ErrT w) (hb : w.heap[b]? = some (.cells #[old] 52 (0, 0))) :
    Calls Tryd.prog 21 #[.iface 53 (.int .i64 c), .iface 63 (.pointer (some ⟨b, 0, none⟩))] w fun ev w' => ev = .returned (.bool false) ∧ Below w.heap.size w w' := by
  refine (as_miss_fault c ⟨b, 0, none⟩ old w hg (by simp [World.cell?, hb])).mono ?_
  rintro e w' ⟨rfl, rfl⟩
  refine ⟨rfl, ?_⟩
  refine Below.alloc (Below.alloc (Below.alloc (Below.refl _ _) (Nat.le_refl _) _) (by simp) _) (by simp; omega) _
end Go.Proofs.YtmpbofmhjjgccaaDoor
