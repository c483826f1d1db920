/-
  The document's 'stands', and 'Fits'.
-/
import Derived.Test.YtmpbofmhjjgccaaTest1
import Derived.Test.YtmpbofmhjjgccaaTest3
import Derived.Lib.IndexMore
namespace Go.Proofs.Ytmpbofmhjjgccaa
open Go.RowKit
set_option maxRecDepth 100000
set_option linter.unusedVariables false
set_option linter.unusedSimpArgs false
attribute [local irreducible] awp aops aop aput aseq ablock Tri Ret Fresh dq adraw dtail

theorem contains_of_occ {s t : List UInt8} {i : Nat} (h : Lib.occAt s t i = true) (hi : i ≤ s.length) : Lib.contains s t = true := by
  unfold Lib.contains
  rw [decide_eq_true_eq]
  rcases Int.lt_or_le (Lib.index s t) 0 with h0 | h0
  · exfalso
    have hx : ∃ j, j ≤ s.length ∧ Lib.occAt s t j = true ∧ ∀ k, k < j → Lib.occAt s t k = false := by
      clear h0
      induction i using Nat.strongRecOn with
      | _ i ih =>
        by_cases hk : ∃ k, k < i ∧ Lib.occAt s t k = true
        · obtain ⟨k, h1, h2⟩ := hk
          exact ih k h1 h2 (by omega)
        · refine ⟨i, hi, h, fun k hk' => ?_⟩
          cases hc : Lib.occAt s t k with
          | false => rfl
          | true => exact absurd ⟨k, hk', hc⟩ hk
    obtain ⟨j, h1, h2, h3⟩ := hx
    rw [Lib.index_first h1 h2 h3] at h0
    omega
  · exact h0
theorem contains_none {s t : List UInt8} (h : ∀ j, j ≤ s.length → Lib.occAt s t j = false) : Lib.contains s t = false := by
  unfold Lib.contains
  rw [Lib.index_none h]
  rfl
/-- Do k bytes of a, folded, stand in b at i? -/
def eqk (a b : ByteArray) (i k : Nat) : Bool := decide ((a.data.toList.map foldB).take k = ((b.data.toList.map foldB).drop i).take k)
theorem eqk_succ (a b : ByteArray) (i k : Nat) (hk : k < a.size) (hi : i + a.size ≤ b.size) : eqk a b i (k + 1) = (eqk a b i k && decide (foldB (a.data.toList.getD k 0) = foldB (b.data.toList.getD (i + k) 0))) := by
  have ha : a.data.toList.length = a.size := by simp
  have hb : b.data.toList.length = b.size := by simp
  unfold eqk
  rw [List.take_succ_eq_append_getElem (by simpa using hk), List.take_succ_eq_append_getElem (by simp; omega)]
  have h1 : (a.data.toList.map foldB)[k]'(by simpa using hk) = foldB (a.data.toList.getD k 0) := by
    rw [List.getD_eq_getElem?_getD, List.getElem?_eq_getElem (by rw [ha]; exact hk)]; simp
  have h2 : ((b.data.toList.map foldB).drop i)[k]'(by simp; omega) = foldB (b.data.toList.getD (i + k) 0) := by
    rw [List.getElem_drop, List.getD_eq_getElem?_getD, List.getElem?_eq_getElem (by rw [hb]; omega)]; simp
  rw [h1, h2, Bool.eq_iff_iff, Bool.and_eq_true, decide_eq_true_eq, decide_eq_true_eq, decide_eq_true_eq]
  constructor
  · intro h
    have := List.append_inj' h rfl
    exact ⟨this.1, by simpa using this.2⟩
  · rintro ⟨h3, h4⟩
    rw [h3, h4]
theorem eqk_all (a b : ByteArray) (i : Nat) : eqk a b i a.size = Lib.occAt (foldS b).data.toList (foldS a).data.toList i := by
  unfold eqk Lib.occAt foldS
  rw [List.take_of_length_le (by simp), Bool.eq_iff_iff, decide_eq_true_eq, List.isPrefixOf_iff_prefix, List.prefix_iff_eq_take]
  simp
theorem occ_long (a b : ByteArray) (i : Nat) (h : b.size < i + a.size) : (∀ j, i ≤ j → a.size ≠ 0 → Lib.occAt (foldS b).data.toList (foldS a).data.toList j = false) := by
  intro j hj h0
  rw [← eqk_all]
  unfold eqk
  rw [decide_eq_false_iff_not]
  intro e
  have := congrArg List.length e
  have hb : b.data.toList.length = b.size := by simp
  simp at this
  omega

set_option maxHeartbeats 4000000 in
theorem refStandsT (a b : ByteArray) (σ : St) (ha : a.size ≤ 1000000) (hb : b.size ≤ 1000000) : Tri Try.prog 19 [.s a, .s b] σ fun d τ => d = .b (standsB (foldS a) b) ∧ τ = σ := by
  refine tri_fn Try.func19 rfl Try.ntmps19 Try.results19 (Nat.le_of_ble_eq_true rfl) (fun hsep => ?_)
  have HS := Lib.hid hsep
  clear hsep
  repeat (first | (refine aops_cons (fun _ hO => ?_); simp [*]; (try simp (discharger := omega) only [wrap_i64, dec_t, dec_f]); (first | (intro b; intros; refine hO.out _ _ ?_) | refine hO.out _ _ ?_ | (refine ⟨by omega, by omega, ?_⟩; intro b; intros; refine hO.out _ _ ?_)); clear hO; (first | refine aput_some (by decide) ?_ | refine aput_none ?_)) | refine aops_nil ?_ | refine aseq_normal ?_ | refine aseq_ret ?_ | refine aseq_exit ?_ | refine ablock_normal ?_ | refine ablock_ret ?_ | refine ablock_same ?_ | refine ablock_other (by decide) ?_ | (refine hK.out _ _ ?_; clear hK) | refine awp_seq (fun _ hK => ?_) | refine awp_region (fun _ hK => ?_) | refine awp_block ?_ | refine awp_skip ?_ | refine awp_ret ?_ | refine awp_exit ?_ | (refine awp_condT ?_ ?_; (focus (simp [*]; done))) | (refine awp_condF ?_ ?_; (focus (simp [*]; done))) | (refine aops_guardT rfl ?_ (fun _ hO => ?_); (focus (simp [*]; done)); simp [*]; (try simp (discharger := omega) only [wrap_i64, dec_t, dec_f]); (first | (intro b; intros; refine hO.out _ _ ?_) | refine hO.out _ _ ?_ | (refine ⟨by omega, by omega, ?_⟩; intro b; intros; refine hO.out _ _ ?_)); clear hO; (first | refine aput_some (by decide) ?_ | refine aput_none ?_)) | (refine aops_guardF rfl ?_ ?_; (focus (simp [*]; done)); (first | refine aput_some (by decide) ?_ | refine aput_none ?_)) | (clear hK; refine hK.out _ _ ?_; clear hK) | (clear hK; clear hK; refine hK.out _ _ ?_; clear hK) | (clear hK; clear hK; clear hK; refine hK.out _ _ ?_; clear hK) | (clear hK; clear hK; clear hK; clear hK; refine hK.out _ _ ?_; clear hK))
  refine awp_loop (fun F' τ => ∃ i : Nat, i ≤ b.size + 1 ∧ F' 0 = .s a ∧ F' 1 = .s b ∧ F' 5 = .i i ∧ σ = τ ∧ Hid (∀ j, j < i → Lib.occAt (foldS b).data.toList (foldS a).data.toList j = false)) (fun F' _ => b.size + 2 - (F' 5).int.toNat) ?_ ?_
  · refine .same ⟨0, by omega, ?_, ?_, ?_, rfl, Lib.hid (by intro j hj; omega)⟩ <;> simp
  · rintro F' τ ⟨i, hi, h0, h1, h5, rfl, hocc⟩ _ hL
    by_cases hlt : i + a.size ≤ b.size
    · have hlt' : (i : Int) + a.size ≤ b.size := by omega
      repeat (first | (refine aops_cons (fun _ hO => ?_); simp [*]; (try simp (discharger := omega) only [wrap_i64, dec_t, dec_f]); (first | (intro b; intros; refine hO.out _ _ ?_) | refine hO.out _ _ ?_ | (refine ⟨by omega, by omega, ?_⟩; intro b; intros; refine hO.out _ _ ?_)); clear hO; (first | refine aput_some (by decide) ?_ | refine aput_none ?_)) | refine aops_nil ?_ | refine aseq_normal ?_ | refine aseq_ret ?_ | refine aseq_exit ?_ | refine ablock_normal ?_ | refine ablock_ret ?_ | refine ablock_same ?_ | refine ablock_other (by decide) ?_ | (refine hK.out _ _ ?_; clear hK) | refine awp_seq (fun _ hK => ?_) | refine awp_region (fun _ hK => ?_) | refine awp_block ?_ | refine awp_skip ?_ | refine awp_ret ?_ | refine awp_exit ?_ | (refine awp_condT ?_ ?_; (focus (simp [*]; done))) | (refine awp_condF ?_ ?_; (focus (simp [*]; done))) | (refine aops_guardT rfl ?_ (fun _ hO => ?_); (focus (simp [*]; done)); simp [*]; (try simp (discharger := omega) only [wrap_i64, dec_t, dec_f]); (first | (intro b; intros; refine hO.out _ _ ?_) | refine hO.out _ _ ?_ | (refine ⟨by omega, by omega, ?_⟩; intro b; intros; refine hO.out _ _ ?_)); clear hO; (first | refine aput_some (by decide) ?_ | refine aput_none ?_)) | (refine aops_guardF rfl ?_ ?_; (focus (simp [*]; done)); (first | refine aput_some (by decide) ?_ | refine aput_none ?_)) | (clear hK; refine hK.out _ _ ?_; clear hK) | (clear hK; clear hK; refine hK.out _ _ ?_; clear hK) | (clear hK; clear hK; clear hK; refine hK.out _ _ ?_; clear hK) | (clear hK; clear hK; clear hK; clear hK; refine hK.out _ _ ?_; clear hK))
      refine awp_loop (fun F2 τ => ∃ k : Nat, k ≤ a.size ∧ F2 0 = .s a ∧ F2 1 = .s b ∧ F2 5 = .i i ∧ F2 6 = .b (eqk a b i k) ∧ F2 18 = .i a.size ∧ F2 19 = .i k ∧ σ = τ) (fun F2 _ => a.size + 1 - (F2 19).int.toNat) ?_ ?_
      · refine .same ⟨0, by omega, ?_, ?_, ?_, ?_, ?_, ?_, rfl⟩ <;> simp [*, eqk]
      · rintro F2 τ ⟨k, hk, g0, g1, g5, g6, g18, g19, rfl⟩ _ hL2
        by_cases hka : k < a.size
        · have hs := eqk_succ a b i k hka hlt
          have HSUC := Lib.hid hs
          clear hs
          cases hq : eqk a b i k with
          | true =>
            rw [hq] at g6
            have HQ := Lib.hid hq
            clear hq
            have hik : i + k < b.size := by omega
            have hik0 : (0:Int) ≤ (i:Int) + k := by omega
            have hik1 : (i:Int) + k < b.size := by omega
            have hik2 : ((i:Int) + k).toNat = i + k := by omega
            repeat (first | (refine aops_cons (fun _ hO => ?_); simp [*]; (try simp (discharger := omega) only [wrap_i64, dec_t, dec_f]); (first | (intro b; intros; refine hO.out _ _ ?_) | refine hO.out _ _ ?_ | (refine ⟨by omega, by omega, ?_⟩; intro b; intros; refine hO.out _ _ ?_)); clear hO; (first | refine aput_some (by decide) ?_ | refine aput_none ?_)) | refine aops_nil ?_ | refine aseq_normal ?_ | refine aseq_ret ?_ | refine aseq_exit ?_ | refine ablock_normal ?_ | refine ablock_ret ?_ | refine ablock_same ?_ | refine ablock_other (by decide) ?_ | (refine hK.out _ _ ?_; clear hK) | refine awp_seq (fun _ hK => ?_) | refine awp_region (fun _ hK => ?_) | refine awp_block ?_ | refine awp_skip ?_ | refine awp_ret ?_ | refine awp_exit ?_ | (refine awp_condT ?_ ?_; (focus (simp [*]; done))) | (refine awp_condF ?_ ?_; (focus (simp [*]; done))) | (refine aops_guardT rfl ?_ (fun _ hO => ?_); (focus (simp [*]; done)); simp [*]; (try simp (discharger := omega) only [wrap_i64, dec_t, dec_f]); (first | (intro b; intros; refine hO.out _ _ ?_) | refine hO.out _ _ ?_ | (refine ⟨by omega, by omega, ?_⟩; intro b; intros; refine hO.out _ _ ?_)); clear hO; (first | refine aput_some (by decide) ?_ | refine aput_none ?_)) | (refine aops_guardF rfl ?_ ?_; (focus (simp [*]; done)); (first | refine aput_some (by decide) ?_ | refine aput_none ?_)) | (clear hK; refine hK.out _ _ ?_; clear hK) | (clear hK; clear hK; refine hK.out _ _ ?_; clear hK) | (clear hK; clear hK; clear hK; refine hK.out _ _ ?_; clear hK) | (clear hK; clear hK; clear hK; clear hK; refine hK.out _ _ ?_; clear hK))
            refine awp_draw (fun _ hK => ?_)
            refine draw_rule rfl [(0, true), (1, true), (2, true), (3, true), (4, true), (5, false), (6, true), (7, true), (8, true), (9, true), (10, true), (11, false), (12, true), (13, true), (14, true)] none [] (by kernel_rfl) ?_
            repeat (first | (refine dq_pu rfl ?_; constructor; refine And.intro (fun _ _ hO => ?_) ?_; (focus (simp [*]; (try simp (discharger := omega) only [wrap_i64, dec_t, dec_f]); (first | exact hO.out _ _ (.refl _) (St.le_refl _) | ((first | refine Tri.mono (foldT _ _) ?_); rintro _ _ ⟨rfl, rfl⟩; exact hO.out _ _ (.refl _) (St.le_refl _)) | exact .inr ⟨(foldT _ _), hO.out _ _ (.refl _) (St.le_refl _)⟩ | exact .inl ⟨(foldT _ _), hO.out _ _ (.refl _) (St.le_refl _)⟩ | exact .inl ⟨hO.out _ _ (.refl _) (St.le_refl _), by omega, by omega⟩))); (first | refine aput_some (by decide) ?_ | refine aput_none ?_)) | (refine dq_rd rfl ?_; constructor; refine And.intro (fun _ _ hO => ?_) ?_; (focus (simp [*]; (try simp (discharger := omega) only [wrap_i64, dec_t, dec_f]); (first | exact hO.out _ _ (.refl _) (St.le_refl _) | ((first | refine Tri.mono (foldT _ _) ?_); rintro _ _ ⟨rfl, rfl⟩; exact hO.out _ _ (.refl _) (St.le_refl _)) | exact .inr ⟨(foldT _ _), hO.out _ _ (.refl _) (St.le_refl _)⟩ | exact .inl ⟨(foldT _ _), hO.out _ _ (.refl _) (St.le_refl _)⟩ | exact .inl ⟨hO.out _ _ (.refl _) (St.le_refl _), by omega, by omega⟩))); (first | refine aput_some (by decide) ?_ | refine aput_none ?_)) | (refine dq_gTp rfl rfl ?_ ?_; (focus (simp [*]; done)); constructor; refine And.intro (fun _ _ hO => ?_) ?_; (focus (simp [*]; (try simp (discharger := omega) only [wrap_i64, dec_t, dec_f]); (first | exact hO.out _ _ (.refl _) (St.le_refl _) | ((first | refine Tri.mono (foldT _ _) ?_); rintro _ _ ⟨rfl, rfl⟩; exact hO.out _ _ (.refl _) (St.le_refl _)) | exact .inr ⟨(foldT _ _), hO.out _ _ (.refl _) (St.le_refl _)⟩ | exact .inl ⟨(foldT _ _), hO.out _ _ (.refl _) (St.le_refl _)⟩ | exact .inl ⟨hO.out _ _ (.refl _) (St.le_refl _), by omega, by omega⟩))); (first | refine aput_some (by decide) ?_ | refine aput_none ?_)) | (refine dq_gTr rfl rfl ?_ ?_; (focus (simp [*]; done)); constructor; refine And.intro (fun _ _ hO => ?_) ?_; (focus (simp [*]; (try simp (discharger := omega) only [wrap_i64, dec_t, dec_f]); (first | exact hO.out _ _ (.refl _) (St.le_refl _) | ((first | refine Tri.mono (foldT _ _) ?_); rintro _ _ ⟨rfl, rfl⟩; exact hO.out _ _ (.refl _) (St.le_refl _)) | exact .inr ⟨(foldT _ _), hO.out _ _ (.refl _) (St.le_refl _)⟩ | exact .inl ⟨(foldT _ _), hO.out _ _ (.refl _) (St.le_refl _)⟩ | exact .inl ⟨hO.out _ _ (.refl _) (St.le_refl _), by omega, by omega⟩))); (first | refine aput_some (by decide) ?_ | refine aput_none ?_)) | (refine dq_gF rfl rfl ?_ ?_; (focus (simp [*]; done)); (first | refine aput_some (by decide) ?_ | refine aput_none ?_)) | refine dq_nil ?_ | refine dtail_none ?_ | (refine dtail_alloc rfl (by decide) (by simp; rfl) ?_; intro b8; simp only [fresh_setBox, fresh_setTip, and_imp, ne_eq]; intros) | (refine aops_idx rfl (fun _ hO => ?_); simp [*]; (try simp (discharger := omega) only [wrap_i64, dec_t, dec_f]); (first | (intro b; intros; refine hO.out _ _ ?_) | refine hO.out _ _ ?_ | (refine ⟨by omega, by omega, ?_⟩; intro b; intros; refine hO.out _ _ ?_) | ((first | refine Tri.mono (foldT _ _) ?_); rintro _ _ ⟨rfl, rfl⟩; refine hO.out _ _ ?_)); clear hO; (first | refine aput_some (by decide) ?_ | refine aput_none ?_)) | refine aops_end ?_ | (refine hK.out _ _ ?_; clear hK))
            repeat (first | (refine aops_cons (fun _ hO => ?_); simp [*]; (try simp (discharger := omega) only [wrap_i64, dec_t, dec_f]); (first | (intro b; intros; refine hO.out _ _ ?_) | refine hO.out _ _ ?_ | (refine ⟨by omega, by omega, ?_⟩; intro b; intros; refine hO.out _ _ ?_)); clear hO; (first | refine aput_some (by decide) ?_ | refine aput_none ?_)) | refine aops_nil ?_ | refine aseq_normal ?_ | refine aseq_ret ?_ | refine aseq_exit ?_ | refine ablock_normal ?_ | refine ablock_ret ?_ | refine ablock_same ?_ | refine ablock_other (by decide) ?_ | (refine hK.out _ _ ?_; clear hK) | refine awp_seq (fun _ hK => ?_) | refine awp_region (fun _ hK => ?_) | refine awp_block ?_ | refine awp_skip ?_ | refine awp_ret ?_ | refine awp_exit ?_ | (refine awp_condT ?_ ?_; (focus (simp [*]; done))) | (refine awp_condF ?_ ?_; (focus (simp [*]; done))) | (refine aops_guardT rfl ?_ (fun _ hO => ?_); (focus (simp [*]; done)); simp [*]; (try simp (discharger := omega) only [wrap_i64, dec_t, dec_f]); (first | (intro b; intros; refine hO.out _ _ ?_) | refine hO.out _ _ ?_ | (refine ⟨by omega, by omega, ?_⟩; intro b; intros; refine hO.out _ _ ?_)); clear hO; (first | refine aput_some (by decide) ?_ | refine aput_none ?_)) | (refine aops_guardF rfl ?_ ?_; (focus (simp [*]; done)); (first | refine aput_some (by decide) ?_ | refine aput_none ?_)) | (clear hK; refine hK.out _ _ ?_; clear hK) | (clear hK; clear hK; refine hK.out _ _ ?_; clear hK) | (clear hK; clear hK; clear hK; refine hK.out _ _ ?_; clear hK) | (clear hK; clear hK; clear hK; clear hK; refine hK.out _ _ ?_; clear hK))
            refine hL2.out _ _ (.less _ (by (repeat (first | exact St.le_refl _ | refine St.le_setBox ?_ (by simp [*]) | refine St.le_setTip ?_ (by simp [*])))) (by (repeat (first | exact HS.out | exact hsep | refine St.Sep.setBox ?_ (by simp [*]) | refine St.Sep.setTip ?_ (by simp [*])))) ⟨⟨k + 1, by omega, ?_, ?_, ?_, ?_, ?_, ?_, rfl⟩, ?_⟩)
            · simp [*]
            · simp [*]
            · simp [*]
            · have := Hid.out HSUC
              rw [this, Hid.out HQ, Bool.true_and]
              simp [*]
              exact ⟨fun h => by apply UInt8.toNat.inj; omega, fun h => by rw [h]⟩
            · simp [*]
            · simp [*]
            · simp [*, D.int]
              omega
          | false =>
            rw [hq] at g6
            have HQ := Lib.hid hq
            clear hq
            repeat (first | (refine aops_cons (fun _ hO => ?_); simp [*]; (try simp (discharger := omega) only [wrap_i64, dec_t, dec_f]); (first | (intro b; intros; refine hO.out _ _ ?_) | refine hO.out _ _ ?_ | (refine ⟨by omega, by omega, ?_⟩; intro b; intros; refine hO.out _ _ ?_)); clear hO; (first | refine aput_some (by decide) ?_ | refine aput_none ?_)) | refine aops_nil ?_ | refine aseq_normal ?_ | refine aseq_ret ?_ | refine aseq_exit ?_ | refine ablock_normal ?_ | refine ablock_ret ?_ | refine ablock_same ?_ | refine ablock_other (by decide) ?_ | (refine hK.out _ _ ?_; clear hK) | refine awp_seq (fun _ hK => ?_) | refine awp_region (fun _ hK => ?_) | refine awp_block ?_ | refine awp_skip ?_ | refine awp_ret ?_ | refine awp_exit ?_ | (refine awp_condT ?_ ?_; (focus (simp [*]; done))) | (refine awp_condF ?_ ?_; (focus (simp [*]; done))) | (refine aops_guardT rfl ?_ (fun _ hO => ?_); (focus (simp [*]; done)); simp [*]; (try simp (discharger := omega) only [wrap_i64, dec_t, dec_f]); (first | (intro b; intros; refine hO.out _ _ ?_) | refine hO.out _ _ ?_ | (refine ⟨by omega, by omega, ?_⟩; intro b; intros; refine hO.out _ _ ?_)); clear hO; (first | refine aput_some (by decide) ?_ | refine aput_none ?_)) | (refine aops_guardF rfl ?_ ?_; (focus (simp [*]; done)); (first | refine aput_some (by decide) ?_ | refine aput_none ?_)) | (clear hK; refine hK.out _ _ ?_; clear hK) | (clear hK; clear hK; refine hK.out _ _ ?_; clear hK) | (clear hK; clear hK; clear hK; refine hK.out _ _ ?_; clear hK) | (clear hK; clear hK; clear hK; clear hK; refine hK.out _ _ ?_; clear hK))
            refine awp_draw (fun _ hK => ?_)
            refine draw_rule rfl [(0, true), (1, true), (2, true), (3, true), (4, true), (5, false), (6, true), (7, true), (8, true), (9, true), (10, true), (11, false), (12, true), (13, true), (14, true)] none [] (by kernel_rfl) ?_
            repeat (first | (refine dq_pu rfl ?_; constructor; refine And.intro (fun _ _ hO => ?_) ?_; (focus (simp [*]; (try simp (discharger := omega) only [wrap_i64, dec_t, dec_f]); (first | exact hO.out _ _ (.refl _) (St.le_refl _) | ((first | refine Tri.mono (foldT _ _) ?_); rintro _ _ ⟨rfl, rfl⟩; exact hO.out _ _ (.refl _) (St.le_refl _)) | exact .inr ⟨(foldT _ _), hO.out _ _ (.refl _) (St.le_refl _)⟩ | exact .inl ⟨(foldT _ _), hO.out _ _ (.refl _) (St.le_refl _)⟩ | exact .inl ⟨hO.out _ _ (.refl _) (St.le_refl _), by omega, by omega⟩))); (first | refine aput_some (by decide) ?_ | refine aput_none ?_)) | (refine dq_rd rfl ?_; constructor; refine And.intro (fun _ _ hO => ?_) ?_; (focus (simp [*]; (try simp (discharger := omega) only [wrap_i64, dec_t, dec_f]); (first | exact hO.out _ _ (.refl _) (St.le_refl _) | ((first | refine Tri.mono (foldT _ _) ?_); rintro _ _ ⟨rfl, rfl⟩; exact hO.out _ _ (.refl _) (St.le_refl _)) | exact .inr ⟨(foldT _ _), hO.out _ _ (.refl _) (St.le_refl _)⟩ | exact .inl ⟨(foldT _ _), hO.out _ _ (.refl _) (St.le_refl _)⟩ | exact .inl ⟨hO.out _ _ (.refl _) (St.le_refl _), by omega, by omega⟩))); (first | refine aput_some (by decide) ?_ | refine aput_none ?_)) | (refine dq_gTp rfl rfl ?_ ?_; (focus (simp [*]; done)); constructor; refine And.intro (fun _ _ hO => ?_) ?_; (focus (simp [*]; (try simp (discharger := omega) only [wrap_i64, dec_t, dec_f]); (first | exact hO.out _ _ (.refl _) (St.le_refl _) | ((first | refine Tri.mono (foldT _ _) ?_); rintro _ _ ⟨rfl, rfl⟩; exact hO.out _ _ (.refl _) (St.le_refl _)) | exact .inr ⟨(foldT _ _), hO.out _ _ (.refl _) (St.le_refl _)⟩ | exact .inl ⟨(foldT _ _), hO.out _ _ (.refl _) (St.le_refl _)⟩ | exact .inl ⟨hO.out _ _ (.refl _) (St.le_refl _), by omega, by omega⟩))); (first | refine aput_some (by decide) ?_ | refine aput_none ?_)) | (refine dq_gTr rfl rfl ?_ ?_; (focus (simp [*]; done)); constructor; refine And.intro (fun _ _ hO => ?_) ?_; (focus (simp [*]; (try simp (discharger := omega) only [wrap_i64, dec_t, dec_f]); (first | exact hO.out _ _ (.refl _) (St.le_refl _) | ((first | refine Tri.mono (foldT _ _) ?_); rintro _ _ ⟨rfl, rfl⟩; exact hO.out _ _ (.refl _) (St.le_refl _)) | exact .inr ⟨(foldT _ _), hO.out _ _ (.refl _) (St.le_refl _)⟩ | exact .inl ⟨(foldT _ _), hO.out _ _ (.refl _) (St.le_refl _)⟩ | exact .inl ⟨hO.out _ _ (.refl _) (St.le_refl _), by omega, by omega⟩))); (first | refine aput_some (by decide) ?_ | refine aput_none ?_)) | (refine dq_gF rfl rfl ?_ ?_; (focus (simp [*]; done)); (first | refine aput_some (by decide) ?_ | refine aput_none ?_)) | refine dq_nil ?_ | refine dtail_none ?_ | (refine dtail_alloc rfl (by decide) (by simp; rfl) ?_; intro b8; simp only [fresh_setBox, fresh_setTip, and_imp, ne_eq]; intros) | (refine aops_idx rfl (fun _ hO => ?_); simp [*]; (try simp (discharger := omega) only [wrap_i64, dec_t, dec_f]); (first | (intro b; intros; refine hO.out _ _ ?_) | refine hO.out _ _ ?_ | (refine ⟨by omega, by omega, ?_⟩; intro b; intros; refine hO.out _ _ ?_) | ((first | refine Tri.mono (foldT _ _) ?_); rintro _ _ ⟨rfl, rfl⟩; refine hO.out _ _ ?_)); clear hO; (first | refine aput_some (by decide) ?_ | refine aput_none ?_)) | refine aops_end ?_ | (refine hK.out _ _ ?_; clear hK))
            repeat (first | (refine aops_cons (fun _ hO => ?_); simp [*]; (try simp (discharger := omega) only [wrap_i64, dec_t, dec_f]); (first | (intro b; intros; refine hO.out _ _ ?_) | refine hO.out _ _ ?_ | (refine ⟨by omega, by omega, ?_⟩; intro b; intros; refine hO.out _ _ ?_)); clear hO; (first | refine aput_some (by decide) ?_ | refine aput_none ?_)) | refine aops_nil ?_ | refine aseq_normal ?_ | refine aseq_ret ?_ | refine aseq_exit ?_ | refine ablock_normal ?_ | refine ablock_ret ?_ | refine ablock_same ?_ | refine ablock_other (by decide) ?_ | (refine hK.out _ _ ?_; clear hK) | refine awp_seq (fun _ hK => ?_) | refine awp_region (fun _ hK => ?_) | refine awp_block ?_ | refine awp_skip ?_ | refine awp_ret ?_ | refine awp_exit ?_ | (refine awp_condT ?_ ?_; (focus (simp [*]; done))) | (refine awp_condF ?_ ?_; (focus (simp [*]; done))) | (refine aops_guardT rfl ?_ (fun _ hO => ?_); (focus (simp [*]; done)); simp [*]; (try simp (discharger := omega) only [wrap_i64, dec_t, dec_f]); (first | (intro b; intros; refine hO.out _ _ ?_) | refine hO.out _ _ ?_ | (refine ⟨by omega, by omega, ?_⟩; intro b; intros; refine hO.out _ _ ?_)); clear hO; (first | refine aput_some (by decide) ?_ | refine aput_none ?_)) | (refine aops_guardF rfl ?_ ?_; (focus (simp [*]; done)); (first | refine aput_some (by decide) ?_ | refine aput_none ?_)) | (clear hK; refine hK.out _ _ ?_; clear hK) | (clear hK; clear hK; refine hK.out _ _ ?_; clear hK) | (clear hK; clear hK; clear hK; refine hK.out _ _ ?_; clear hK) | (clear hK; clear hK; clear hK; clear hK; refine hK.out _ _ ?_; clear hK))
            refine hL2.out _ _ (.less _ (by (repeat (first | exact St.le_refl _ | refine St.le_setBox ?_ (by simp [*]) | refine St.le_setTip ?_ (by simp [*])))) (by (repeat (first | exact HS.out | exact hsep | refine St.Sep.setBox ?_ (by simp [*]) | refine St.Sep.setTip ?_ (by simp [*])))) ⟨⟨k + 1, by omega, ?_, ?_, ?_, ?_, ?_, ?_, rfl⟩, ?_⟩)
            · simp [*]
            · simp [*]
            · simp [*]
            · have := Hid.out HSUC
              rw [this, Hid.out HQ, Bool.false_and]
              simp [*]
            · simp [*]
            · simp [*]
            · simp [*, D.int]
              omega
        · have hke : k = a.size := by omega
          subst hke
          have hq := eqk_all a b i
          cases ho : Lib.occAt (foldS b).data.toList (foldS a).data.toList i with
          | true =>
            rw [ho] at hq
            have HO := Lib.hid ho
            clear ho
            repeat (first | (refine aops_cons (fun _ hO => ?_); simp [*]; (try simp (discharger := omega) only [wrap_i64, dec_t, dec_f]); (first | (intro b; intros; refine hO.out _ _ ?_) | refine hO.out _ _ ?_ | (refine ⟨by omega, by omega, ?_⟩; intro b; intros; refine hO.out _ _ ?_)); clear hO; (first | refine aput_some (by decide) ?_ | refine aput_none ?_)) | refine aops_nil ?_ | refine aseq_normal ?_ | refine aseq_ret ?_ | refine aseq_exit ?_ | refine ablock_normal ?_ | refine ablock_ret ?_ | refine ablock_same ?_ | refine ablock_other (by decide) ?_ | (refine hK.out _ _ ?_; clear hK) | refine awp_seq (fun _ hK => ?_) | refine awp_region (fun _ hK => ?_) | refine awp_block ?_ | refine awp_skip ?_ | refine awp_ret ?_ | refine awp_exit ?_ | (refine awp_condT ?_ ?_; (focus (simp [*]; done))) | (refine awp_condF ?_ ?_; (focus (simp [*]; done))) | (refine aops_guardT rfl ?_ (fun _ hO => ?_); (focus (simp [*]; done)); simp [*]; (try simp (discharger := omega) only [wrap_i64, dec_t, dec_f]); (first | (intro b; intros; refine hO.out _ _ ?_) | refine hO.out _ _ ?_ | (refine ⟨by omega, by omega, ?_⟩; intro b; intros; refine hO.out _ _ ?_)); clear hO; (first | refine aput_some (by decide) ?_ | refine aput_none ?_)) | (refine aops_guardF rfl ?_ ?_; (focus (simp [*]; done)); (first | refine aput_some (by decide) ?_ | refine aput_none ?_)) | (clear hK; refine hK.out _ _ ?_; clear hK) | (clear hK; clear hK; refine hK.out _ _ ?_; clear hK) | (clear hK; clear hK; clear hK; refine hK.out _ _ ?_; clear hK) | (clear hK; clear hK; clear hK; clear hK; refine hK.out _ _ ?_; clear hK))
            have hc : standsB (foldS a) b = true := contains_of_occ (Hid.out HO) (by simp; have := size_foldS b; omega)
            (refine ⟨trivial, ?_⟩; simp [*]; (try simp (discharger := omega) only [wrap_i64, dec_t, dec_f]))
            exact .same HS.out ⟨rfl, rfl⟩
          | false =>
            rw [ho] at hq
            have HO := Lib.hid ho
            clear ho
            repeat (first | (refine aops_cons (fun _ hO => ?_); simp [*]; (try simp (discharger := omega) only [wrap_i64, dec_t, dec_f]); (first | (intro b; intros; refine hO.out _ _ ?_) | refine hO.out _ _ ?_ | (refine ⟨by omega, by omega, ?_⟩; intro b; intros; refine hO.out _ _ ?_)); clear hO; (first | refine aput_some (by decide) ?_ | refine aput_none ?_)) | refine aops_nil ?_ | refine aseq_normal ?_ | refine aseq_ret ?_ | refine aseq_exit ?_ | refine ablock_normal ?_ | refine ablock_ret ?_ | refine ablock_same ?_ | refine ablock_other (by decide) ?_ | (refine hK.out _ _ ?_; clear hK) | refine awp_seq (fun _ hK => ?_) | refine awp_region (fun _ hK => ?_) | refine awp_block ?_ | refine awp_skip ?_ | refine awp_ret ?_ | refine awp_exit ?_ | (refine awp_condT ?_ ?_; (focus (simp [*]; done))) | (refine awp_condF ?_ ?_; (focus (simp [*]; done))) | (refine aops_guardT rfl ?_ (fun _ hO => ?_); (focus (simp [*]; done)); simp [*]; (try simp (discharger := omega) only [wrap_i64, dec_t, dec_f]); (first | (intro b; intros; refine hO.out _ _ ?_) | refine hO.out _ _ ?_ | (refine ⟨by omega, by omega, ?_⟩; intro b; intros; refine hO.out _ _ ?_)); clear hO; (first | refine aput_some (by decide) ?_ | refine aput_none ?_)) | (refine aops_guardF rfl ?_ ?_; (focus (simp [*]; done)); (first | refine aput_some (by decide) ?_ | refine aput_none ?_)) | (clear hK; refine hK.out _ _ ?_; clear hK) | (clear hK; clear hK; refine hK.out _ _ ?_; clear hK) | (clear hK; clear hK; clear hK; refine hK.out _ _ ?_; clear hK) | (clear hK; clear hK; clear hK; clear hK; refine hK.out _ _ ?_; clear hK))
            refine hL.out _ _ (.less _ (by (repeat (first | exact St.le_refl _ | refine St.le_setBox ?_ (by simp [*]) | refine St.le_setTip ?_ (by simp [*])))) (by (repeat (first | exact HS.out | exact hsep | refine St.Sep.setBox ?_ (by simp [*]) | refine St.Sep.setTip ?_ (by simp [*])))) ⟨⟨i + 1, by omega, ?_, ?_, ?_, rfl, Lib.hid (fun j hj => ?_)⟩, ?_⟩)
            · simp [*]
            · simp [*]
            · simp [*]
            · rcases Nat.lt_or_ge j i with h | h
              · exact Hid.out hocc j h
              · have : j = i := by omega
                exact this ▸ Hid.out HO
            · simp [*, D.int]
              omega
    · have hlt' : ¬ ((i : Int) + a.size ≤ b.size) := by omega
      repeat (first | (refine aops_cons (fun _ hO => ?_); simp [*]; (try simp (discharger := omega) only [wrap_i64, dec_t, dec_f]); (first | (intro b; intros; refine hO.out _ _ ?_) | refine hO.out _ _ ?_ | (refine ⟨by omega, by omega, ?_⟩; intro b; intros; refine hO.out _ _ ?_)); clear hO; (first | refine aput_some (by decide) ?_ | refine aput_none ?_)) | refine aops_nil ?_ | refine aseq_normal ?_ | refine aseq_ret ?_ | refine aseq_exit ?_ | refine ablock_normal ?_ | refine ablock_ret ?_ | refine ablock_same ?_ | refine ablock_other (by decide) ?_ | (refine hK.out _ _ ?_; clear hK) | refine awp_seq (fun _ hK => ?_) | refine awp_region (fun _ hK => ?_) | refine awp_block ?_ | refine awp_skip ?_ | refine awp_ret ?_ | refine awp_exit ?_ | (refine awp_condT ?_ ?_; (focus (simp [*]; done))) | (refine awp_condF ?_ ?_; (focus (simp [*]; done))) | (refine aops_guardT rfl ?_ (fun _ hO => ?_); (focus (simp [*]; done)); simp [*]; (try simp (discharger := omega) only [wrap_i64, dec_t, dec_f]); (first | (intro b; intros; refine hO.out _ _ ?_) | refine hO.out _ _ ?_ | (refine ⟨by omega, by omega, ?_⟩; intro b; intros; refine hO.out _ _ ?_)); clear hO; (first | refine aput_some (by decide) ?_ | refine aput_none ?_)) | (refine aops_guardF rfl ?_ ?_; (focus (simp [*]; done)); (first | refine aput_some (by decide) ?_ | refine aput_none ?_)) | (clear hK; refine hK.out _ _ ?_; clear hK) | (clear hK; clear hK; refine hK.out _ _ ?_; clear hK) | (clear hK; clear hK; clear hK; refine hK.out _ _ ?_; clear hK) | (clear hK; clear hK; clear hK; clear hK; refine hK.out _ _ ?_; clear hK))
      have hc : standsB (foldS a) b = false := by
        refine contains_none (fun j hj => ?_)
        rcases Nat.lt_or_ge j i with h | h
        · exact Hid.out hocc j h
        · refine occ_long a b i (by omega) j h ?_
          have := size_foldS b
          simp at hj
          omega
      (refine ⟨trivial, ?_⟩; simp [*]; (try simp (discharger := omega) only [wrap_i64, dec_t, dec_f]))
      exact .same HS.out ⟨rfl, rfl⟩
set_option maxHeartbeats 4000000 in
theorem refFitsT (q : QV) (x : SV) (σ : St) (hq : q.term.size ≤ 1000000) (hn : x.name.size ≤ 1000000) (ht : x.topic.size ≤ 1000000) (ha : x.alias.size ≤ 1000000) (hl : q.types.length ≤ 1000000) :
    Tri Try.prog 10 [.agg (QVd q), .agg (SVd x)] σ fun d τ => d = .b (fitsB q x) ∧ τ = σ := by
  unfold QVd
  refine tri_fn Try.func10 rfl Try.ntmps10 Try.results10 (Nat.le_of_ble_eq_true rfl) (fun hsep => ?_)
  have HS := Lib.hid hsep
  clear hsep
  cases h1 : standsB (foldS q.term) x.name <;> cases h2 : standsB (foldS q.term) x.topic <;> cases h3 : standsB (foldS q.term) x.alias
  all_goals
    repeat (first | (refine aops_cons (fun _ hO => ?_); simp [*]; (try simp (discharger := omega) only [wrap_i64, dec_t, dec_f]); (first | (intro b; intros; refine hO.out _ _ ?_) | refine hO.out _ _ ?_ | (refine ⟨by omega, by omega, ?_⟩; intro b; intros; refine hO.out _ _ ?_) | ((first | refine Tri.mono (refStandsT _ _ _ hq hn) ?_ | refine Tri.mono (refStandsT _ _ _ hq ht) ?_ | refine Tri.mono (refStandsT _ _ _ hq ha) ?_); rintro _ _ ⟨rfl, rfl⟩; refine hO.out _ _ ?_)); clear hO; (first | refine aput_some (by decide) ?_ | refine aput_none ?_)) | refine aops_nil ?_ | refine aseq_normal ?_ | refine aseq_ret ?_ | refine aseq_exit ?_ | refine ablock_normal ?_ | refine ablock_ret ?_ | refine ablock_same ?_ | refine ablock_other (by decide) ?_ | (refine hK.out _ _ ?_; clear hK) | refine awp_seq (fun _ hK => ?_) | refine awp_region (fun _ hK => ?_) | refine awp_block ?_ | refine awp_skip ?_ | refine awp_ret ?_ | refine awp_exit ?_ | (refine awp_condT ?_ ?_; (focus (simp [*]; done))) | (refine awp_condF ?_ ?_; (focus (simp [*]; done))) | (refine aops_guardT rfl ?_ (fun _ hO => ?_); (focus (simp [*]; done)); simp [*]; (try simp (discharger := omega) only [wrap_i64, dec_t, dec_f]); (first | (intro b; intros; refine hO.out _ _ ?_) | refine hO.out _ _ ?_ | (refine ⟨by omega, by omega, ?_⟩; intro b; intros; refine hO.out _ _ ?_) | ((first | refine Tri.mono (refStandsT _ _ _ hq hn) ?_ | refine Tri.mono (refStandsT _ _ _ hq ht) ?_ | refine Tri.mono (refStandsT _ _ _ hq ha) ?_); rintro _ _ ⟨rfl, rfl⟩; refine hO.out _ _ ?_)); clear hO; (first | refine aput_some (by decide) ?_ | refine aput_none ?_)) | (refine aops_guardF rfl ?_ ?_; (focus (simp [*]; done)); (first | refine aput_some (by decide) ?_ | refine aput_none ?_)) | (clear hK; refine hK.out _ _ ?_; clear hK) | (clear hK; clear hK; refine hK.out _ _ ?_; clear hK) | (clear hK; clear hK; clear hK; refine hK.out _ _ ?_; clear hK) | (clear hK; clear hK; clear hK; clear hK; refine hK.out _ _ ?_; clear hK))
  · have hB : fitsB q x = false := by unfold fitsB; simp [*]
    (refine ⟨trivial, ?_⟩; simp [*]; (try simp (discharger := omega) only [wrap_i64, dec_t, dec_f]))
    exact .mk _ σ (.refl _) (by (repeat (first | exact St.le_refl _ | refine St.le_setBox ?_ (by simp [*]) | refine St.le_setTip ?_ (by simp [*])))) HS.out ⟨rfl, rfl⟩
  all_goals
    have hB : fitsB q x = typeB q x := by unfold fitsB; simp [*]
    have HB := Lib.hid hB
    clear hB
    refine awp_loop (fun F' τ => ∃ k b1 b2 : Nat, k ≤ q.types.length ∧ Fresh σ b1 ∧ Fresh σ b2 ∧ b1 ≠ b2 ∧ F' 2 = .v (.pointer (some ⟨b1, 0, none⟩)) ∧ F' 3 = .v (.pointer (some ⟨b2, 0, none⟩)) ∧ F' 30 = .i q.types.length ∧ F' 31 = .i k ∧ τ = (σ.setBox b1 (some (25, QVd q))).setBox b2 (some (39, SVd x)) ∧ Hid (∀ t ∈ q.types.take k, t ≠ x.typ)) (fun F' _ => q.types.length + 1 - (F' 31).int.toNat) ?_ ?_
    · refine .same ⟨0, _, _, by omega, ?_, ?_, ?_, rfl, rfl, ?_, ?_, rfl, Lib.hid (by simp)⟩ <;> simp_all
    · rintro F' τ ⟨k, b1, b2, hk, f1, f2, h12, h2', h3', h30, h31, rfl, hall⟩ _ hL
      have h21 : b2 ≠ b1 := h12.symm
      by_cases hlt : k < q.types.length
      · have hlt1 : (k : Int) < q.types.length := by omega
        by_cases he : q.types[k] = x.typ
        · have hT : typeB q x = true := by
            unfold typeB
            rw [Bool.or_eq_true]
            refine .inr ((Lib.containsS_iff _ _).mpr (he ▸ List.getElem_mem hlt))
          have HT := Lib.hid hT
          clear hT
          repeat (first | (refine aops_cons (fun _ hO => ?_); simp [*]; (try simp (discharger := omega) only [wrap_i64, dec_t, dec_f]); (first | (intro b; intros; refine hO.out _ _ ?_) | refine hO.out _ _ ?_ | (refine ⟨by omega, by omega, ?_⟩; intro b; intros; refine hO.out _ _ ?_)); clear hO; (first | refine aput_some (by decide) ?_ | refine aput_none ?_)) | refine aops_nil ?_ | refine aseq_normal ?_ | refine aseq_ret ?_ | refine aseq_exit ?_ | refine ablock_normal ?_ | refine ablock_ret ?_ | refine ablock_same ?_ | refine ablock_other (by decide) ?_ | (refine hK.out _ _ ?_; clear hK) | refine awp_seq (fun _ hK => ?_) | refine awp_region (fun _ hK => ?_) | refine awp_block ?_ | refine awp_skip ?_ | refine awp_ret ?_ | refine awp_exit ?_ | (refine awp_condT ?_ ?_; (focus (simp [*]; done))) | (refine awp_condF ?_ ?_; (focus (simp [*]; done))) | (refine aops_guardT rfl ?_ (fun _ hO => ?_); (focus (simp [*]; done)); simp [*]; (try simp (discharger := omega) only [wrap_i64, dec_t, dec_f]); (first | (intro b; intros; refine hO.out _ _ ?_) | refine hO.out _ _ ?_ | (refine ⟨by omega, by omega, ?_⟩; intro b; intros; refine hO.out _ _ ?_)); clear hO; (first | refine aput_some (by decide) ?_ | refine aput_none ?_)) | (refine aops_guardF rfl ?_ ?_; (focus (simp [*]; done)); (first | refine aput_some (by decide) ?_ | refine aput_none ?_)) | (clear hK; refine hK.out _ _ ?_; clear hK) | (clear hK; clear hK; refine hK.out _ _ ?_; clear hK) | (clear hK; clear hK; clear hK; refine hK.out _ _ ?_; clear hK) | (clear hK; clear hK; clear hK; clear hK; refine hK.out _ _ ?_; clear hK))
          refine awp_draw (fun _ hK => ?_)
          refine draw_rule rfl [(0, true), (1, false), (2, true), (3, true), (4, true), (5, true), (6, false), (7, true)] none [] (by kernel_rfl) ?_
          repeat (first | (refine dq_pu rfl ?_; constructor; refine And.intro (fun _ _ hO => ?_) ?_; (focus (simp [*]; (try simp (discharger := omega) only [wrap_i64, dec_t, dec_f]); (first | exact hO.out _ _ (.refl _) (St.le_refl _) | exact .inl ⟨hO.out _ _ (.refl _) (St.le_refl _), by omega, by omega⟩))); (first | refine aput_some (by decide) ?_ | refine aput_none ?_)) | (refine dq_rd rfl ?_; constructor; refine And.intro (fun _ _ hO => ?_) ?_; (focus (simp [*]; (try simp (discharger := omega) only [wrap_i64, dec_t, dec_f]); (first | exact hO.out _ _ (.refl _) (St.le_refl _) | exact .inl ⟨hO.out _ _ (.refl _) (St.le_refl _), by omega, by omega⟩))); (first | refine aput_some (by decide) ?_ | refine aput_none ?_)) | (refine dq_gTp rfl rfl ?_ ?_; (focus (simp [*]; done)); constructor; refine And.intro (fun _ _ hO => ?_) ?_; (focus (simp [*]; (try simp (discharger := omega) only [wrap_i64, dec_t, dec_f]); (first | exact hO.out _ _ (.refl _) (St.le_refl _) | exact .inl ⟨hO.out _ _ (.refl _) (St.le_refl _), by omega, by omega⟩))); (first | refine aput_some (by decide) ?_ | refine aput_none ?_)) | (refine dq_gTr rfl rfl ?_ ?_; (focus (simp [*]; done)); constructor; refine And.intro (fun _ _ hO => ?_) ?_; (focus (simp [*]; (try simp (discharger := omega) only [wrap_i64, dec_t, dec_f]); (first | exact hO.out _ _ (.refl _) (St.le_refl _) | exact .inl ⟨hO.out _ _ (.refl _) (St.le_refl _), by omega, by omega⟩))); (first | refine aput_some (by decide) ?_ | refine aput_none ?_)) | (refine dq_gF rfl rfl ?_ ?_; (focus (simp [*]; done)); (first | refine aput_some (by decide) ?_ | refine aput_none ?_)) | refine dq_nil ?_ | refine dtail_none ?_ | (refine dtail_alloc rfl (by decide) (by simp; rfl) ?_; intro b8; simp only [fresh_setBox, fresh_setTip, and_imp, ne_eq]; intros) | (refine aops_idx rfl (fun _ hO => ?_); simp [*]; (try simp (discharger := omega) only [wrap_i64, dec_t, dec_f]); (first | (intro b; intros; refine hO.out _ _ ?_) | refine hO.out _ _ ?_ | (refine ⟨by omega, by omega, ?_⟩; intro b; intros; refine hO.out _ _ ?_)); clear hO; (first | refine aput_some (by decide) ?_ | refine aput_none ?_)) | refine aops_end ?_ | (refine hK.out _ _ ?_; clear hK))
          repeat (first | (refine aops_cons (fun _ hO => ?_); simp [*]; (try simp (discharger := omega) only [wrap_i64, dec_t, dec_f]); (first | (intro b; intros; refine hO.out _ _ ?_) | refine hO.out _ _ ?_ | (refine ⟨by omega, by omega, ?_⟩; intro b; intros; refine hO.out _ _ ?_)); clear hO; (first | refine aput_some (by decide) ?_ | refine aput_none ?_)) | refine aops_nil ?_ | refine aseq_normal ?_ | refine aseq_ret ?_ | refine aseq_exit ?_ | refine ablock_normal ?_ | refine ablock_ret ?_ | refine ablock_same ?_ | refine ablock_other (by decide) ?_ | (refine hK.out _ _ ?_; clear hK) | refine awp_seq (fun _ hK => ?_) | refine awp_region (fun _ hK => ?_) | refine awp_block ?_ | refine awp_skip ?_ | refine awp_ret ?_ | refine awp_exit ?_ | (refine awp_condT ?_ ?_; (focus (simp [*]; done))) | (refine awp_condF ?_ ?_; (focus (simp [*]; done))) | (refine aops_guardT rfl ?_ (fun _ hO => ?_); (focus (simp [*]; done)); simp [*]; (try simp (discharger := omega) only [wrap_i64, dec_t, dec_f]); (first | (intro b; intros; refine hO.out _ _ ?_) | refine hO.out _ _ ?_ | (refine ⟨by omega, by omega, ?_⟩; intro b; intros; refine hO.out _ _ ?_)); clear hO; (first | refine aput_some (by decide) ?_ | refine aput_none ?_)) | (refine aops_guardF rfl ?_ ?_; (focus (simp [*]; done)); (first | refine aput_some (by decide) ?_ | refine aput_none ?_)) | (clear hK; refine hK.out _ _ ?_; clear hK) | (clear hK; clear hK; refine hK.out _ _ ?_; clear hK) | (clear hK; clear hK; clear hK; refine hK.out _ _ ?_; clear hK) | (clear hK; clear hK; clear hK; clear hK; refine hK.out _ _ ?_; clear hK))
          (refine ⟨trivial, ?_⟩; simp [*]; (try simp (discharger := omega) only [wrap_i64, dec_t, dec_f]))
          refine .mk _ σ (.refl _) (by (repeat (first | exact St.le_refl _ | refine St.le_setBox ?_ (by simp [*]) | refine St.le_setTip ?_ (by simp [*])))) HS.out ⟨?_, rfl⟩
          rw [Hid.out HB, Hid.out HT]
        · repeat (first | (refine aops_cons (fun _ hO => ?_); simp [*]; (try simp (discharger := omega) only [wrap_i64, dec_t, dec_f]); (first | (intro b; intros; refine hO.out _ _ ?_) | refine hO.out _ _ ?_ | (refine ⟨by omega, by omega, ?_⟩; intro b; intros; refine hO.out _ _ ?_)); clear hO; (first | refine aput_some (by decide) ?_ | refine aput_none ?_)) | refine aops_nil ?_ | refine aseq_normal ?_ | refine aseq_ret ?_ | refine aseq_exit ?_ | refine ablock_normal ?_ | refine ablock_ret ?_ | refine ablock_same ?_ | refine ablock_other (by decide) ?_ | (refine hK.out _ _ ?_; clear hK) | refine awp_seq (fun _ hK => ?_) | refine awp_region (fun _ hK => ?_) | refine awp_block ?_ | refine awp_skip ?_ | refine awp_ret ?_ | refine awp_exit ?_ | (refine awp_condT ?_ ?_; (focus (simp [*]; done))) | (refine awp_condF ?_ ?_; (focus (simp [*]; done))) | (refine aops_guardT rfl ?_ (fun _ hO => ?_); (focus (simp [*]; done)); simp [*]; (try simp (discharger := omega) only [wrap_i64, dec_t, dec_f]); (first | (intro b; intros; refine hO.out _ _ ?_) | refine hO.out _ _ ?_ | (refine ⟨by omega, by omega, ?_⟩; intro b; intros; refine hO.out _ _ ?_)); clear hO; (first | refine aput_some (by decide) ?_ | refine aput_none ?_)) | (refine aops_guardF rfl ?_ ?_; (focus (simp [*]; done)); (first | refine aput_some (by decide) ?_ | refine aput_none ?_)) | (clear hK; refine hK.out _ _ ?_; clear hK) | (clear hK; clear hK; refine hK.out _ _ ?_; clear hK) | (clear hK; clear hK; clear hK; refine hK.out _ _ ?_; clear hK) | (clear hK; clear hK; clear hK; clear hK; refine hK.out _ _ ?_; clear hK))
          refine awp_draw (fun _ hK => ?_)
          refine draw_rule rfl [(0, true), (1, false), (2, true), (3, true), (4, true), (5, true), (6, false), (7, true)] none [] (by kernel_rfl) ?_
          repeat (first | (refine dq_pu rfl ?_; constructor; refine And.intro (fun _ _ hO => ?_) ?_; (focus (simp [*]; (try simp (discharger := omega) only [wrap_i64, dec_t, dec_f]); (first | exact hO.out _ _ (.refl _) (St.le_refl _) | exact .inl ⟨hO.out _ _ (.refl _) (St.le_refl _), by omega, by omega⟩))); (first | refine aput_some (by decide) ?_ | refine aput_none ?_)) | (refine dq_rd rfl ?_; constructor; refine And.intro (fun _ _ hO => ?_) ?_; (focus (simp [*]; (try simp (discharger := omega) only [wrap_i64, dec_t, dec_f]); (first | exact hO.out _ _ (.refl _) (St.le_refl _) | exact .inl ⟨hO.out _ _ (.refl _) (St.le_refl _), by omega, by omega⟩))); (first | refine aput_some (by decide) ?_ | refine aput_none ?_)) | (refine dq_gTp rfl rfl ?_ ?_; (focus (simp [*]; done)); constructor; refine And.intro (fun _ _ hO => ?_) ?_; (focus (simp [*]; (try simp (discharger := omega) only [wrap_i64, dec_t, dec_f]); (first | exact hO.out _ _ (.refl _) (St.le_refl _) | exact .inl ⟨hO.out _ _ (.refl _) (St.le_refl _), by omega, by omega⟩))); (first | refine aput_some (by decide) ?_ | refine aput_none ?_)) | (refine dq_gTr rfl rfl ?_ ?_; (focus (simp [*]; done)); constructor; refine And.intro (fun _ _ hO => ?_) ?_; (focus (simp [*]; (try simp (discharger := omega) only [wrap_i64, dec_t, dec_f]); (first | exact hO.out _ _ (.refl _) (St.le_refl _) | exact .inl ⟨hO.out _ _ (.refl _) (St.le_refl _), by omega, by omega⟩))); (first | refine aput_some (by decide) ?_ | refine aput_none ?_)) | (refine dq_gF rfl rfl ?_ ?_; (focus (simp [*]; done)); (first | refine aput_some (by decide) ?_ | refine aput_none ?_)) | refine dq_nil ?_ | refine dtail_none ?_ | (refine dtail_alloc rfl (by decide) (by simp; rfl) ?_; intro b8; simp only [fresh_setBox, fresh_setTip, and_imp, ne_eq]; intros) | (refine aops_idx rfl (fun _ hO => ?_); simp [*]; (try simp (discharger := omega) only [wrap_i64, dec_t, dec_f]); (first | (intro b; intros; refine hO.out _ _ ?_) | refine hO.out _ _ ?_ | (refine ⟨by omega, by omega, ?_⟩; intro b; intros; refine hO.out _ _ ?_)); clear hO; (first | refine aput_some (by decide) ?_ | refine aput_none ?_)) | refine aops_end ?_ | (refine hK.out _ _ ?_; clear hK))
          repeat (first | (refine aops_cons (fun _ hO => ?_); simp [*]; (try simp (discharger := omega) only [wrap_i64, dec_t, dec_f]); (first | (intro b; intros; refine hO.out _ _ ?_) | refine hO.out _ _ ?_ | (refine ⟨by omega, by omega, ?_⟩; intro b; intros; refine hO.out _ _ ?_)); clear hO; (first | refine aput_some (by decide) ?_ | refine aput_none ?_)) | refine aops_nil ?_ | refine aseq_normal ?_ | refine aseq_ret ?_ | refine aseq_exit ?_ | refine ablock_normal ?_ | refine ablock_ret ?_ | refine ablock_same ?_ | refine ablock_other (by decide) ?_ | (refine hK.out _ _ ?_; clear hK) | refine awp_seq (fun _ hK => ?_) | refine awp_region (fun _ hK => ?_) | refine awp_block ?_ | refine awp_skip ?_ | refine awp_ret ?_ | refine awp_exit ?_ | (refine awp_condT ?_ ?_; (focus (simp [*]; done))) | (refine awp_condF ?_ ?_; (focus (simp [*]; done))) | (refine aops_guardT rfl ?_ (fun _ hO => ?_); (focus (simp [*]; done)); simp [*]; (try simp (discharger := omega) only [wrap_i64, dec_t, dec_f]); (first | (intro b; intros; refine hO.out _ _ ?_) | refine hO.out _ _ ?_ | (refine ⟨by omega, by omega, ?_⟩; intro b; intros; refine hO.out _ _ ?_)); clear hO; (first | refine aput_some (by decide) ?_ | refine aput_none ?_)) | (refine aops_guardF rfl ?_ ?_; (focus (simp [*]; done)); (first | refine aput_some (by decide) ?_ | refine aput_none ?_)) | (clear hK; refine hK.out _ _ ?_; clear hK) | (clear hK; clear hK; refine hK.out _ _ ?_; clear hK) | (clear hK; clear hK; clear hK; refine hK.out _ _ ?_; clear hK) | (clear hK; clear hK; clear hK; clear hK; refine hK.out _ _ ?_; clear hK))
          refine hL.out _ _ (.less _ (by (repeat (first | exact St.le_refl _ | refine St.le_setBox ?_ (by simp [*]) | refine St.le_setTip ?_ (by simp [*])))) (by (repeat (first | exact HS.out | exact hsep | refine St.Sep.setBox ?_ (by simp [*]) | refine St.Sep.setTip ?_ (by simp [*])))) ⟨⟨k + 1, b1, b2, by omega, f1, f2, h12, ?_, ?_, ?_, ?_, rfl, Lib.hid ?_⟩, ?_⟩)
          · simp [*]
          · simp [*]
          · simp [*]
          · simp [*]
          · intro t hm
            rw [List.take_succ_eq_append_getElem hlt, List.mem_append, List.mem_singleton] at hm
            rcases hm with hm | rfl
            · exact Hid.out hall t hm
            · exact he
          · simp [*, D.int]
            omega
      · have hke : k = q.types.length := by omega
        subst hke
        have hT : typeB q x = decide (q.types.length = 0) := by
          have h0 : Lib.containsS q.types x.typ = false := by
            cases hc : Lib.containsS q.types x.typ with
            | false => rfl
            | true =>
              have := (Lib.containsS_iff _ _).mp hc
              exact absurd rfl (Hid.out hall x.typ (by rw [List.take_length]; exact this))
          unfold typeB
          rw [h0, Bool.or_false]
          cases q.types <;> simp
        have HT := Lib.hid hT
        clear hT
        repeat (first | (refine aops_cons (fun _ hO => ?_); simp [*]; (try simp (discharger := omega) only [wrap_i64, dec_t, dec_f]); (first | (intro b; intros; refine hO.out _ _ ?_) | refine hO.out _ _ ?_ | (refine ⟨by omega, by omega, ?_⟩; intro b; intros; refine hO.out _ _ ?_)); clear hO; (first | refine aput_some (by decide) ?_ | refine aput_none ?_)) | refine aops_nil ?_ | refine aseq_normal ?_ | refine aseq_ret ?_ | refine aseq_exit ?_ | refine ablock_normal ?_ | refine ablock_ret ?_ | refine ablock_same ?_ | refine ablock_other (by decide) ?_ | (refine hK.out _ _ ?_; clear hK) | refine awp_seq (fun _ hK => ?_) | refine awp_region (fun _ hK => ?_) | refine awp_block ?_ | refine awp_skip ?_ | refine awp_ret ?_ | refine awp_exit ?_ | (refine awp_condT ?_ ?_; (focus (simp [*]; done))) | (refine awp_condF ?_ ?_; (focus (simp [*]; done))) | (refine aops_guardT rfl ?_ (fun _ hO => ?_); (focus (simp [*]; done)); simp [*]; (try simp (discharger := omega) only [wrap_i64, dec_t, dec_f]); (first | (intro b; intros; refine hO.out _ _ ?_) | refine hO.out _ _ ?_ | (refine ⟨by omega, by omega, ?_⟩; intro b; intros; refine hO.out _ _ ?_)); clear hO; (first | refine aput_some (by decide) ?_ | refine aput_none ?_)) | (refine aops_guardF rfl ?_ ?_; (focus (simp [*]; done)); (first | refine aput_some (by decide) ?_ | refine aput_none ?_)) | (clear hK; refine hK.out _ _ ?_; clear hK) | (clear hK; clear hK; refine hK.out _ _ ?_; clear hK) | (clear hK; clear hK; clear hK; refine hK.out _ _ ?_; clear hK) | (clear hK; clear hK; clear hK; clear hK; refine hK.out _ _ ?_; clear hK))
        (refine ⟨trivial, ?_⟩; simp [*]; (try simp (discharger := omega) only [wrap_i64, dec_t, dec_f]))
        refine .mk _ σ (.refl _) (by (repeat (first | exact St.le_refl _ | refine St.le_setBox ?_ (by simp [*]) | refine St.le_setTip ?_ (by simp [*])))) HS.out ⟨?_, rfl⟩
        rw [Hid.out HB, Hid.out HT]
        simp
end Go.Proofs.Ytmpbofmhjjgccaa
