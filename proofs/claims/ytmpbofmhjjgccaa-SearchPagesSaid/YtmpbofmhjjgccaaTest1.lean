import Derived.Test.YtmpbofmhjjgccaaLay
import Derived.Test.YtmpbofmhjjgccaaFold
namespace Go.Proofs.Ytmpbofmhjjgccaa
open Go.RowKit
set_option maxRecDepth 100000
set_option linter.unusedVariables false
set_option linter.unusedSimpArgs false
attribute [local irreducible] awp aops aop aput aseq ablock Tri Ret Fresh dq adraw dtail

set_option maxHeartbeats 4000000 in
theorem foldT (c : UInt8) (σ : St) : Tri Try.prog 20 [.v (.int .u8 c.toNat)] σ fun d τ => d = .v (.int .u8 (foldB c).toNat) ∧ τ = σ := by
  have hc256 : c.toNat < 256 := UInt8.toNat_lt c
  by_cases hu : 65 ≤ c.toNat ∧ c.toNat ≤ 90
  · have hup := foldB_up c hu
    have hw : IntKind.u8.wrap ((c.toNat : Int) + 32) = (foldB c).toNat := by rw [IntKind.wrap_u8]; omega
    obtain ⟨hu1, hu2⟩ := hu
    clear hup
    refine tri_fn Try.func20 rfl Try.ntmps20 Try.results20 (Nat.le_of_ble_eq_true rfl) (fun hsep => ?_)
    repeat (first | (refine aops_cons (fun _ hO => ?_); simp [*]; (try simp (discharger := omega) only [wrap_i64, dec_t, dec_f]); (first | (intro b; intros; refine hO.out _ _ ?_) | refine hO.out _ _ ?_ | (refine ⟨by omega, by omega, ?_⟩; intro b; intros; refine hO.out _ _ ?_)); clear hO; (first | refine aput_some (by decide) ?_ | refine aput_none ?_)) | refine aops_nil ?_ | refine aseq_normal ?_ | refine aseq_ret ?_ | refine aseq_exit ?_ | refine ablock_normal ?_ | refine ablock_ret ?_ | refine ablock_same ?_ | refine ablock_other (by decide) ?_ | (refine hK.out _ _ ?_; clear hK) | refine awp_seq (fun _ hK => ?_) | refine awp_region (fun _ hK => ?_) | refine awp_block ?_ | refine awp_skip ?_ | refine awp_ret ?_ | refine awp_exit ?_ | (refine awp_condT ?_ ?_; (focus (simp [*]; done))) | (refine awp_condF ?_ ?_; (focus (simp [*]; done))) | (refine aops_guardT rfl ?_ (fun _ hO => ?_); (focus (simp [*]; done)); simp [*]; (try simp (discharger := omega) only [wrap_i64, dec_t, dec_f]); (first | (intro b; intros; refine hO.out _ _ ?_) | refine hO.out _ _ ?_ | (refine ⟨by omega, by omega, ?_⟩; intro b; intros; refine hO.out _ _ ?_)); clear hO; (first | refine aput_some (by decide) ?_ | refine aput_none ?_)) | (refine aops_guardF rfl ?_ ?_; (focus (simp [*]; done)); (first | refine aput_some (by decide) ?_ | refine aput_none ?_)) | (clear hK; refine hK.out _ _ ?_; clear hK) | (clear hK; clear hK; refine hK.out _ _ ?_; clear hK) | (clear hK; clear hK; clear hK; refine hK.out _ _ ?_; clear hK) | (clear hK; clear hK; clear hK; clear hK; refine hK.out _ _ ?_; clear hK))
    (refine ⟨trivial, ?_⟩; simp [*]; (try simp (discharger := omega) only [wrap_i64, dec_t, dec_f]))
    exact .same hsep ⟨rfl, rfl⟩
  · have hs := foldB_same c hu
    by_cases hu1 : 65 ≤ c.toNat
    · have hu2 : 90 < c.toNat := by omega
      clear hu
      refine tri_fn Try.func20 rfl Try.ntmps20 Try.results20 (Nat.le_of_ble_eq_true rfl) (fun hsep => ?_)
      repeat (first | (refine aops_cons (fun _ hO => ?_); simp [*]; (try simp (discharger := omega) only [wrap_i64, dec_t, dec_f]); (first | (intro b; intros; refine hO.out _ _ ?_) | refine hO.out _ _ ?_ | (refine ⟨by omega, by omega, ?_⟩; intro b; intros; refine hO.out _ _ ?_)); clear hO; (first | refine aput_some (by decide) ?_ | refine aput_none ?_)) | refine aops_nil ?_ | refine aseq_normal ?_ | refine aseq_ret ?_ | refine aseq_exit ?_ | refine ablock_normal ?_ | refine ablock_ret ?_ | refine ablock_same ?_ | refine ablock_other (by decide) ?_ | (refine hK.out _ _ ?_; clear hK) | refine awp_seq (fun _ hK => ?_) | refine awp_region (fun _ hK => ?_) | refine awp_block ?_ | refine awp_skip ?_ | refine awp_ret ?_ | refine awp_exit ?_ | (refine awp_condT ?_ ?_; (focus (simp [*]; done))) | (refine awp_condF ?_ ?_; (focus (simp [*]; done))) | (refine aops_guardT rfl ?_ (fun _ hO => ?_); (focus (simp [*]; done)); simp [*]; (try simp (discharger := omega) only [wrap_i64, dec_t, dec_f]); (first | (intro b; intros; refine hO.out _ _ ?_) | refine hO.out _ _ ?_ | (refine ⟨by omega, by omega, ?_⟩; intro b; intros; refine hO.out _ _ ?_)); clear hO; (first | refine aput_some (by decide) ?_ | refine aput_none ?_)) | (refine aops_guardF rfl ?_ ?_; (focus (simp [*]; done)); (first | refine aput_some (by decide) ?_ | refine aput_none ?_)) | (clear hK; refine hK.out _ _ ?_; clear hK) | (clear hK; clear hK; refine hK.out _ _ ?_; clear hK) | (clear hK; clear hK; clear hK; refine hK.out _ _ ?_; clear hK) | (clear hK; clear hK; clear hK; clear hK; refine hK.out _ _ ?_; clear hK))
      (refine ⟨trivial, ?_⟩; simp [*]; (try simp (discharger := omega) only [wrap_i64, dec_t, dec_f]))
      exact .same hsep ⟨rfl, rfl⟩
    · clear hu
      refine tri_fn Try.func20 rfl Try.ntmps20 Try.results20 (Nat.le_of_ble_eq_true rfl) (fun hsep => ?_)
      repeat (first | (refine aops_cons (fun _ hO => ?_); simp [*]; (try simp (discharger := omega) only [wrap_i64, dec_t, dec_f]); (first | (intro b; intros; refine hO.out _ _ ?_) | refine hO.out _ _ ?_ | (refine ⟨by omega, by omega, ?_⟩; intro b; intros; refine hO.out _ _ ?_)); clear hO; (first | refine aput_some (by decide) ?_ | refine aput_none ?_)) | refine aops_nil ?_ | refine aseq_normal ?_ | refine aseq_ret ?_ | refine aseq_exit ?_ | refine ablock_normal ?_ | refine ablock_ret ?_ | refine ablock_same ?_ | refine ablock_other (by decide) ?_ | (refine hK.out _ _ ?_; clear hK) | refine awp_seq (fun _ hK => ?_) | refine awp_region (fun _ hK => ?_) | refine awp_block ?_ | refine awp_skip ?_ | refine awp_ret ?_ | refine awp_exit ?_ | (refine awp_condT ?_ ?_; (focus (simp [*]; done))) | (refine awp_condF ?_ ?_; (focus (simp [*]; done))) | (refine aops_guardT rfl ?_ (fun _ hO => ?_); (focus (simp [*]; done)); simp [*]; (try simp (discharger := omega) only [wrap_i64, dec_t, dec_f]); (first | (intro b; intros; refine hO.out _ _ ?_) | refine hO.out _ _ ?_ | (refine ⟨by omega, by omega, ?_⟩; intro b; intros; refine hO.out _ _ ?_)); clear hO; (first | refine aput_some (by decide) ?_ | refine aput_none ?_)) | (refine aops_guardF rfl ?_ ?_; (focus (simp [*]; done)); (first | refine aput_some (by decide) ?_ | refine aput_none ?_)) | (clear hK; refine hK.out _ _ ?_; clear hK) | (clear hK; clear hK; refine hK.out _ _ ?_; clear hK) | (clear hK; clear hK; clear hK; refine hK.out _ _ ?_; clear hK) | (clear hK; clear hK; clear hK; clear hK; refine hK.out _ _ ?_; clear hK))
      (refine ⟨trivial, ?_⟩; simp [*]; (try simp (discharger := omega) only [wrap_i64, dec_t, dec_f]))
      exact .same hsep ⟨rfl, rfl⟩
end Go.Proofs.Ytmpbofmhjjgccaa
