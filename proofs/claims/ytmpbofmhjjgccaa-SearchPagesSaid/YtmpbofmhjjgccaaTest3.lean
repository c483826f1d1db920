import Derived.Test.YtmpbofmhjjgccaaLay
import Derived.Test.YtmpbofmhjjgccaaFew21
namespace Go.Proofs.Ytmpbofmhjjgccaa
open Go.RowKit
set_option maxRecDepth 100000
set_option linter.unusedVariables false
set_option linter.unusedSimpArgs false
attribute [local irreducible] awp aops aop aput aseq ablock Tri Ret Fresh dq adraw dtail

def SVd (x : SV) : List D := [.s x.room, .s x.typ, .s x.name, .s x.topic, .s x.alias, .s x.avatar, .s x.rule, .i x.joined, .b x.readable, .b x.guests]
def QVd (q : QV) : List D := [.s q.term, .lst false 1 (q.types.map fun t => [.s t]), .i q.limit, .i q.since]
def SVsD (l : List SV) : D := .lst false 10 (l.map SVd)
attribute [local simp] SVd
def D.int : D → Int
  | .v (.int _ n) => n
  | _ => 0

set_option maxHeartbeats 4000000 in
theorem fewT (l : List SV) (q : QV) (σ : St) (hl : l.length ≤ 9223372036854775807) (ht : q.types.length ≤ 9223372036854775807) (hx : ∀ x ∈ l, x.name.size ≤ 140737488351232 ∧ x.topic.size ≤ 140737488351232 ∧ x.alias.size ≤ 140737488351232) :
    Tri Try.prog 6 [SVsD l, .agg (QVd q)] σ fun d τ => d = .b (fewB l q) ∧ τ = σ := by
  have HX := Lib.hid hx
  unfold SVsD QVd
  clear hx
  refine tri_fn Try.func6 rfl Try.ntmps6 Try.results6 (Nat.le_of_ble_eq_true rfl) (fun hsep => ?_)
  have HS := Lib.hid hsep
  clear hsep
  repeat (first | (refine aops_cons (fun _ hO => ?_); simp [*]; (try simp (discharger := omega) only [wrap_i64, dec_t, dec_f]); (first | (intro b; intros; refine hO.out _ _ ?_) | refine hO.out _ _ ?_ | (refine ⟨by omega, by omega, ?_⟩; intro b; intros; refine hO.out _ _ ?_)); clear hO; (first | refine aput_some (by decide) ?_ | refine aput_none ?_)) | refine aops_nil ?_ | refine aseq_normal ?_ | refine aseq_ret ?_ | refine aseq_exit ?_ | refine ablock_normal ?_ | refine ablock_ret ?_ | refine ablock_same ?_ | refine ablock_other (by decide) ?_ | (refine hK.out _ _ ?_; clear hK) | refine awp_seq (fun _ hK => ?_) | refine awp_region (fun _ hK => ?_) | refine awp_block ?_ | refine awp_skip ?_ | refine awp_ret ?_ | refine awp_exit ?_ | (refine awp_condT ?_ ?_; (focus (simp [*]; done))) | (refine awp_condF ?_ ?_; (focus (simp [*]; done))) | (refine aops_guardT rfl ?_ (fun _ hO => ?_); (focus (simp [*]; done)); simp [*]; (try simp (discharger := omega) only [wrap_i64, dec_t, dec_f]); (first | (intro b; intros; refine hO.out _ _ ?_) | refine hO.out _ _ ?_ | (refine ⟨by omega, by omega, ?_⟩; intro b; intros; refine hO.out _ _ ?_)); clear hO; (first | refine aput_some (by decide) ?_ | refine aput_none ?_)) | (refine aops_guardF rfl ?_ ?_; (focus (simp [*]; done)); (first | refine aput_some (by decide) ?_ | refine aput_none ?_)) | (clear hK; refine hK.out _ _ ?_; clear hK) | (clear hK; clear hK; refine hK.out _ _ ?_; clear hK) | (clear hK; clear hK; clear hK; refine hK.out _ _ ?_; clear hK) | (clear hK; clear hK; clear hK; clear hK; refine hK.out _ _ ?_; clear hK))
  obtain ⟨σ1, hσ1⟩ : ∃ σ1, σ1 = σ.setBox b (some (25, [D.s q.term, D.lst false 1 (List.map (fun t => [D.s t]) q.types), D.i q.limit, D.i q.since])) := ⟨_, rfl⟩
  refine awp_loop (fun F' τ => ∃ k : Nat, k ≤ l.length ∧ F' 0 = D.lst false 10 (l.map SVd) ∧ F' 3 = .v (.pointer (some ⟨b, 0, none⟩)) ∧ F' 7 = D.lst false 10 (l.map SVd) ∧ F' 8 = .i l.length ∧ F' 9 = .i k ∧ τ = σ1 ∧ Hid ((l.take k).all shortB = true)) (fun F' _ => l.length - (F' 9).int.toNat) ?_ ?_
  · refine .same ⟨0, by omega, ?_, ?_, ?_, ?_, ?_, hσ1.symm, Lib.hid (by simp)⟩ <;> simp [*]
  · rintro F' τ ⟨k, hk, h0, h3, h7, h8, h9, hτ, hall⟩ _ hL
    subst hσ1
    subst hτ
    by_cases hlt : k < l.length
    · obtain ⟨s1, s2, s3⟩ := HX.out l[k] (List.getElem_mem hlt)
      by_cases hs : l[k].name.size + l[k].topic.size + l[k].alias.size ≤ 300
      · repeat (first | (refine aops_cons (fun _ hO => ?_); simp [*]; (try simp (discharger := omega) only [wrap_i64, dec_t, dec_f]); (first | (intro b; intros; refine hO.out _ _ ?_) | refine hO.out _ _ ?_ | (refine ⟨by omega, by omega, ?_⟩; intro b; intros; refine hO.out _ _ ?_)); clear hO; (first | refine aput_some (by decide) ?_ | refine aput_none ?_)) | refine aops_nil ?_ | refine aseq_normal ?_ | refine aseq_ret ?_ | refine aseq_exit ?_ | refine ablock_normal ?_ | refine ablock_ret ?_ | refine ablock_same ?_ | refine ablock_other (by decide) ?_ | (refine hK.out _ _ ?_; clear hK) | refine awp_seq (fun _ hK => ?_) | refine awp_region (fun _ hK => ?_) | refine awp_block ?_ | refine awp_skip ?_ | refine awp_ret ?_ | refine awp_exit ?_ | (refine awp_condT ?_ ?_; (focus (simp [*]; done))) | (refine awp_condF ?_ ?_; (focus (simp [*]; done))) | (refine aops_guardT rfl ?_ (fun _ hO => ?_); (focus (simp [*]; done)); simp [*]; (try simp (discharger := omega) only [wrap_i64, dec_t, dec_f]); (first | (intro b; intros; refine hO.out _ _ ?_) | refine hO.out _ _ ?_ | (refine ⟨by omega, by omega, ?_⟩; intro b; intros; refine hO.out _ _ ?_)); clear hO; (first | refine aput_some (by decide) ?_ | refine aput_none ?_)) | (refine aops_guardF rfl ?_ ?_; (focus (simp [*]; done)); (first | refine aput_some (by decide) ?_ | refine aput_none ?_)) | (clear hK; refine hK.out _ _ ?_; clear hK) | (clear hK; clear hK; refine hK.out _ _ ?_; clear hK) | (clear hK; clear hK; clear hK; refine hK.out _ _ ?_; clear hK) | (clear hK; clear hK; clear hK; clear hK; refine hK.out _ _ ?_; clear hK))
        refine hL.out _ _ (.less _ (by (repeat (first | exact St.le_refl _ | refine St.le_setBox ?_ (by simp [*]) | refine St.le_setTip ?_ (by simp [*])))) (by (repeat (first | exact HS.out | exact hsep | refine St.Sep.setBox ?_ (by simp [*]) | refine St.Sep.setTip ?_ (by simp [*])))) ⟨⟨k + 1, by omega, ?_, ?_, ?_, ?_, ?_, rfl, Lib.hid ?_⟩, ?_⟩)
        · simp [*]
        · simp [*]
        · simp [*]
        · simp [*]
        · simp [*]
        · rw [take_all hlt, hall.out]; simp [shortB]; exact hs
        · simp [*, D.int]; omega
      · repeat (first | (refine aops_cons (fun _ hO => ?_); simp [*]; (try simp (discharger := omega) only [wrap_i64, dec_t, dec_f]); (first | (intro b; intros; refine hO.out _ _ ?_) | refine hO.out _ _ ?_ | (refine ⟨by omega, by omega, ?_⟩; intro b; intros; refine hO.out _ _ ?_)); clear hO; (first | refine aput_some (by decide) ?_ | refine aput_none ?_)) | refine aops_nil ?_ | refine aseq_normal ?_ | refine aseq_ret ?_ | refine aseq_exit ?_ | refine ablock_normal ?_ | refine ablock_ret ?_ | refine ablock_same ?_ | refine ablock_other (by decide) ?_ | (refine hK.out _ _ ?_; clear hK) | refine awp_seq (fun _ hK => ?_) | refine awp_region (fun _ hK => ?_) | refine awp_block ?_ | refine awp_skip ?_ | refine awp_ret ?_ | refine awp_exit ?_ | (refine awp_condT ?_ ?_; (focus (simp [*]; done))) | (refine awp_condF ?_ ?_; (focus (simp [*]; done))) | (refine aops_guardT rfl ?_ (fun _ hO => ?_); (focus (simp [*]; done)); simp [*]; (try simp (discharger := omega) only [wrap_i64, dec_t, dec_f]); (first | (intro b; intros; refine hO.out _ _ ?_) | refine hO.out _ _ ?_ | (refine ⟨by omega, by omega, ?_⟩; intro b; intros; refine hO.out _ _ ?_)); clear hO; (first | refine aput_some (by decide) ?_ | refine aput_none ?_)) | (refine aops_guardF rfl ?_ ?_; (focus (simp [*]; done)); (first | refine aput_some (by decide) ?_ | refine aput_none ?_)) | (clear hK; refine hK.out _ _ ?_; clear hK) | (clear hK; clear hK; refine hK.out _ _ ?_; clear hK) | (clear hK; clear hK; clear hK; refine hK.out _ _ ?_; clear hK) | (clear hK; clear hK; clear hK; clear hK; refine hK.out _ _ ?_; clear hK))
        (refine ⟨trivial, ?_⟩; simp [*]; (try simp (discharger := omega) only [wrap_i64, dec_t, dec_f]))
        refine .mk _ σ (.refl _) (by (repeat (first | exact St.le_refl _ | refine St.le_setBox ?_ (by simp [*]) | refine St.le_setTip ?_ (by simp [*])))) HS.out ⟨?_, rfl⟩
        have : fewB l q = false := by
          unfold fewB
          have : l.all shortB = false := by
            rw [List.all_eq_false]
            exact ⟨l[k], List.getElem_mem hlt, by simp [shortB]; omega⟩
          rw [this]
          rfl
        rw [this]
    · have hkl : k = l.length := by omega
      subst hkl
      have hall := hall.out
      rw [List.take_length] at hall
      have hB : fewB l q = (decide (l.length ≤ 80) && decide (q.term.size ≤ 100) && decide (q.types.length ≤ 10)) := by unfold fewB; rw [hall]; simp
      have HB := Lib.hid hB
      clear hall hB
      by_cases h1 : l.length ≤ 80
      · by_cases h2 : q.term.size ≤ 100
        · repeat (first | (refine aops_cons (fun _ hO => ?_); simp [*]; (try simp (discharger := omega) only [wrap_i64, dec_t, dec_f]); (first | (intro b; intros; refine hO.out _ _ ?_) | refine hO.out _ _ ?_ | (refine ⟨by omega, by omega, ?_⟩; intro b; intros; refine hO.out _ _ ?_)); clear hO; (first | refine aput_some (by decide) ?_ | refine aput_none ?_)) | refine aops_nil ?_ | refine aseq_normal ?_ | refine aseq_ret ?_ | refine aseq_exit ?_ | refine ablock_normal ?_ | refine ablock_ret ?_ | refine ablock_same ?_ | refine ablock_other (by decide) ?_ | (refine hK.out _ _ ?_; clear hK) | refine awp_seq (fun _ hK => ?_) | refine awp_region (fun _ hK => ?_) | refine awp_block ?_ | refine awp_skip ?_ | refine awp_ret ?_ | refine awp_exit ?_ | (refine awp_condT ?_ ?_; (focus (simp [*]; done))) | (refine awp_condF ?_ ?_; (focus (simp [*]; done))) | (refine aops_guardT rfl ?_ (fun _ hO => ?_); (focus (simp [*]; done)); simp [*]; (try simp (discharger := omega) only [wrap_i64, dec_t, dec_f]); (first | (intro b; intros; refine hO.out _ _ ?_) | refine hO.out _ _ ?_ | (refine ⟨by omega, by omega, ?_⟩; intro b; intros; refine hO.out _ _ ?_)); clear hO; (first | refine aput_some (by decide) ?_ | refine aput_none ?_)) | (refine aops_guardF rfl ?_ ?_; (focus (simp [*]; done)); (first | refine aput_some (by decide) ?_ | refine aput_none ?_)) | (clear hK; refine hK.out _ _ ?_; clear hK) | (clear hK; clear hK; refine hK.out _ _ ?_; clear hK) | (clear hK; clear hK; clear hK; refine hK.out _ _ ?_; clear hK) | (clear hK; clear hK; clear hK; clear hK; refine hK.out _ _ ?_; clear hK))
          (refine ⟨trivial, ?_⟩; simp [*]; (try simp (discharger := omega) only [wrap_i64, dec_t, dec_f]))
          exact .mk _ σ (.refl _) (by (repeat (first | exact St.le_refl _ | refine St.le_setBox ?_ (by simp [*]) | refine St.le_setTip ?_ (by simp [*])))) HS.out ⟨by rw [HB.out]; simp [h1, h2]; omega, rfl⟩
        · repeat (first | (refine aops_cons (fun _ hO => ?_); simp [*]; (try simp (discharger := omega) only [wrap_i64, dec_t, dec_f]); (first | (intro b; intros; refine hO.out _ _ ?_) | refine hO.out _ _ ?_ | (refine ⟨by omega, by omega, ?_⟩; intro b; intros; refine hO.out _ _ ?_)); clear hO; (first | refine aput_some (by decide) ?_ | refine aput_none ?_)) | refine aops_nil ?_ | refine aseq_normal ?_ | refine aseq_ret ?_ | refine aseq_exit ?_ | refine ablock_normal ?_ | refine ablock_ret ?_ | refine ablock_same ?_ | refine ablock_other (by decide) ?_ | (refine hK.out _ _ ?_; clear hK) | refine awp_seq (fun _ hK => ?_) | refine awp_region (fun _ hK => ?_) | refine awp_block ?_ | refine awp_skip ?_ | refine awp_ret ?_ | refine awp_exit ?_ | (refine awp_condT ?_ ?_; (focus (simp [*]; done))) | (refine awp_condF ?_ ?_; (focus (simp [*]; done))) | (refine aops_guardT rfl ?_ (fun _ hO => ?_); (focus (simp [*]; done)); simp [*]; (try simp (discharger := omega) only [wrap_i64, dec_t, dec_f]); (first | (intro b; intros; refine hO.out _ _ ?_) | refine hO.out _ _ ?_ | (refine ⟨by omega, by omega, ?_⟩; intro b; intros; refine hO.out _ _ ?_)); clear hO; (first | refine aput_some (by decide) ?_ | refine aput_none ?_)) | (refine aops_guardF rfl ?_ ?_; (focus (simp [*]; done)); (first | refine aput_some (by decide) ?_ | refine aput_none ?_)) | (clear hK; refine hK.out _ _ ?_; clear hK) | (clear hK; clear hK; refine hK.out _ _ ?_; clear hK) | (clear hK; clear hK; clear hK; refine hK.out _ _ ?_; clear hK) | (clear hK; clear hK; clear hK; clear hK; refine hK.out _ _ ?_; clear hK))
          (refine ⟨trivial, ?_⟩; simp [*]; (try simp (discharger := omega) only [wrap_i64, dec_t, dec_f]))
          exact .mk _ σ (.refl _) (by (repeat (first | exact St.le_refl _ | refine St.le_setBox ?_ (by simp [*]) | refine St.le_setTip ?_ (by simp [*])))) HS.out ⟨by rw [HB.out]; simp [h1, h2], rfl⟩
      · repeat (first | (refine aops_cons (fun _ hO => ?_); simp [*]; (try simp (discharger := omega) only [wrap_i64, dec_t, dec_f]); (first | (intro b; intros; refine hO.out _ _ ?_) | refine hO.out _ _ ?_ | (refine ⟨by omega, by omega, ?_⟩; intro b; intros; refine hO.out _ _ ?_)); clear hO; (first | refine aput_some (by decide) ?_ | refine aput_none ?_)) | refine aops_nil ?_ | refine aseq_normal ?_ | refine aseq_ret ?_ | refine aseq_exit ?_ | refine ablock_normal ?_ | refine ablock_ret ?_ | refine ablock_same ?_ | refine ablock_other (by decide) ?_ | (refine hK.out _ _ ?_; clear hK) | refine awp_seq (fun _ hK => ?_) | refine awp_region (fun _ hK => ?_) | refine awp_block ?_ | refine awp_skip ?_ | refine awp_ret ?_ | refine awp_exit ?_ | (refine awp_condT ?_ ?_; (focus (simp [*]; done))) | (refine awp_condF ?_ ?_; (focus (simp [*]; done))) | (refine aops_guardT rfl ?_ (fun _ hO => ?_); (focus (simp [*]; done)); simp [*]; (try simp (discharger := omega) only [wrap_i64, dec_t, dec_f]); (first | (intro b; intros; refine hO.out _ _ ?_) | refine hO.out _ _ ?_ | (refine ⟨by omega, by omega, ?_⟩; intro b; intros; refine hO.out _ _ ?_)); clear hO; (first | refine aput_some (by decide) ?_ | refine aput_none ?_)) | (refine aops_guardF rfl ?_ ?_; (focus (simp [*]; done)); (first | refine aput_some (by decide) ?_ | refine aput_none ?_)) | (clear hK; refine hK.out _ _ ?_; clear hK) | (clear hK; clear hK; refine hK.out _ _ ?_; clear hK) | (clear hK; clear hK; clear hK; refine hK.out _ _ ?_; clear hK) | (clear hK; clear hK; clear hK; clear hK; refine hK.out _ _ ?_; clear hK))
        (refine ⟨trivial, ?_⟩; simp [*]; (try simp (discharger := omega) only [wrap_i64, dec_t, dec_f]))
        exact .mk _ σ (.refl _) (by (repeat (first | exact St.le_refl _ | refine St.le_setBox ?_ (by simp [*]) | refine St.le_setTip ?_ (by simp [*])))) HS.out ⟨by rw [HB.out]; simp [h1], rfl⟩
end Go.Proofs.Ytmpbofmhjjgccaa
