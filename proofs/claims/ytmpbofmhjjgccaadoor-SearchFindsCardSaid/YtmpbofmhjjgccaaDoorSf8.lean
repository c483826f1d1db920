/-
  The card of the law SearchFinds: it holds for every input.
-/
import Derived.Test.YtmpbofmhjjgccaaDoorSf7
import Derived.Test.YtmpbofmhjjgccaaDoorSf5
import Derived.Test.YtmpbofmhjjgccaaDoorRows
import Derived.PinnedBridge
import Derived.Lay
import Derived.LaidHandle
import Derived.LaidLaws
import Derived.ProofKit
import Derived.OpenShut
import Derived.Deep.DeepHandedRow
import Derived.SevenTiedAt
import Derived.Test.YtmpbofmhjjgccaaDoorSf6
import Derived.Test.YtmpbofmhjjgccaaDoorSf1
import Derived.Test.YtmpbofmhjjgccaaDoorCards
import Derived.Test.YtmpbofmhjjgccaaDoorTie
/-
  errors.As, errors.Is at errors, as they are reasoned about.
-/
namespace Go.Proofs.YtmpbofmhjjgccaaDoor
open Go.RowKit
set_option maxRecDepth 100000
set_option linter.unusedVariables false
set_option linter.unusedSimpArgs false

theorem Sim.holds {base w : World} {G : Gh} {σ : St} (h : Sim base w G σ) : Holds w G := fun b o v hv => (h.data b o v hv).1
theorem Sim.errT {base w : World} {G : Gh} {σ : St} (h : Sim base w G σ) : ErrT w := by
  have h1 := h.ok.errT
  unfold ErrT
  exact (h.below.cell (World.block_lt_of_cell? _ _ h1)).trans h1
theorem args2_inv {G : Gh} {vs : List Value} {d e : D} (h : RepL G vs [d, e]) : ∃ x y, vs = [x, y] ∧ Rep G x d ∧ Rep G y e := by
  obtain ⟨x, xs, rfl, hx, h⟩ := h.inv
  obtain ⟨y, ys, rfl, hy, h⟩ := h.inv
  rw [h.inv0]
  exact ⟨x, y, rfl, hx, hy⟩
theorem iface_inv {G : Gh} {v : Value} {t : TypeId} {y : Value} (h : Rep G v (.iface t (.v y))) : v = .iface t y := by
  cases h with
  | iface _ x _ hr => rw [hr.v_inv]
theorem box1_inv {base w : World} {G : Gh} {σ : St} (h : Sim base w G σ) {b : Nat} {T : TypeId} {d : D} (hb : σ.own b = some (.box T [d])) : base.heap.size ≤ b ∧ (∀ o, G b o = none) ∧ ∃ x, w.heap[b]? = some (.cells #[x] T (0, 0)) := by
  obtain ⟨h1, h2, vs, h3, h4, _⟩ := h.own b _ hb
  obtain ⟨x, xs, rfl, _, h5⟩ := h4.inv
  rw [h5.inv0] at h3
  exact ⟨h1, h2, x, h3⟩
theorem box1_put {base w w' : World} {G : Gh} {σ : St} (h : Sim base w G σ) {b : Nat} {T : TypeId} {d d' : D} {y : Value} (hb : σ.own b = some (.box T [d])) (hy : Rep G y d') (h1 : y.oneCell' = true) (hw : w'.heap[b]? = some (.cells #[y] T (0, 0))) (hg : w.grownBy w' (some b)) : Sim base w' G (σ.set b (some (.box T [d']))) := by
  obtain ⟨k1, k2, _⟩ := box1_inv h hb
  refine h.upd _ (h.below.grown hg h.below.size (fun k hk => by injection hk with hk; omega)) (fun k hk hne => hg.block k hk (fun e => hne (Option.some.inj e))) G.le_refl (fun _ _ _ => rfl) (fun o v hv => by rw [k2 o] at hv; cases hv) (fun z hz => ?_)
  injection hz with hz
  subst hz
  exact ⟨k1, k2, [y], hw, (RepL.nil G).cons hy, fun x hx => by rw [List.mem_singleton.1 hx]; exact h1⟩
theorem asCodeT (e : Er) (b : Nat) (d0 : D) (σ : St) (hσ : σ.own b = some (.box 53 [d0])) : Tri Tryd.prog 21 [e.d, .iface 62 (.at b 0)] σ fun d τ => d = .b true ∧ τ = σ.set b (some (.box 53 [.i e.inner])) := by
  intro base w G vs hS hA
  obtain ⟨v, t, rfl, hv, ht⟩ := args2_inv hA
  rw [iface_inv ht]
  obtain ⟨_, _, x, hb⟩ := box1_inv hS hσ
  refine (as_code_chain' G e v b x w hS.holds hv hS.errT hb).mono ?_
  rintro ev w' ⟨rfl, h1, h2⟩
  exact ⟨_, G, G.le_refl, box1_put hS hσ (.v _) rfl h1 h2, .inl ⟨_, _, rfl, .v _, rfl, rfl⟩⟩
theorem asFaultT (a : Int) (f : ByteArray) (e : Er) (b : Nat) (d0 : D) (σ : St) (hσ : σ.own b = some (.box 52 [d0])) : Tri Tryd.prog 21 [(Er.fault a f e).d, .iface 63 (.at b 0)] σ fun d τ => d = .b true ∧ τ = σ.set b (some (.box 52 [.ptr [.i a, .s f, e.d]])) := by
  intro base w G vs hS hA
  obtain ⟨v, t, rfl, hv, ht⟩ := args2_inv hA
  rw [iface_inv ht]
  obtain ⟨_, _, x, hb⟩ := box1_inv hS hσ
  rw [Er.d] at hv
  cases hv with
  | iface _ y _ hr =>
    obtain ⟨p, rfl⟩ : ∃ p, y = .pointer (some p) := by cases hr; exact ⟨_, rfl⟩
    refine (as_hit_fault' p b x w hS.errT hb).mono ?_
    rintro ev w' ⟨rfl, h1, h2⟩
    exact ⟨_, G, G.le_refl, box1_put hS hσ hr rfl h1 h2, .inl ⟨_, _, rfl, .v _, rfl, rfl⟩⟩
theorem asMissT (c : Int) (b : Nat) (d0 : D) (σ : St) (hσ : σ.own b = some (.box 52 [d0])) : Tri Tryd.prog 21 [(Er.code c).d, .iface 63 (.at b 0)] σ fun d τ => d = .b false ∧ τ = σ := by
  intro base w G vs hS hA
  obtain ⟨v, t, rfl, hv, ht⟩ := args2_inv hA
  rw [iface_inv ht, er_code hv]
  obtain ⟨_, _, x, hb⟩ := box1_inv hS hσ
  refine (as_miss_fault' c b x w hS.errT hb).mono ?_
  rintro ev w' ⟨rfl, h1⟩
  exact ⟨_, G, G.le_refl, hS.grow h1, .inl ⟨_, _, rfl, .v _, rfl, rfl⟩⟩
end Go.Proofs.YtmpbofmhjjgccaaDoor
/-
  Tell: an error as it is told.
-/
namespace Go.Proofs.YtmpbofmhjjgccaaDoor
open Go.RowKit
set_option maxRecDepth 100000
set_option linter.unusedVariables false
set_option linter.unusedSimpArgs false
attribute [local irreducible] awp aops aop aput aseq ablock TriX Tri Ret Fresh dq adraw dtail dals dfin Wk
attribute [local simp] ErT.d

@[local simp] theorem none_code : ErT.none.code = 0 := rfl
@[local simp] theorem none_at : ErT.none.at_ = -1 := rfl
@[local simp] theorem none_path : ErT.none.path = ByteArray.empty := rfl
def erDep : Nat → D → Nat
  | 0, _ => 0
  | n + 1, .iface _ (.ptr [_, _, d]) => erDep n d + 1
  | _ + 1, _ => 0
theorem erDep_d : ∀ (n : Nat) (e : Er), e.depth ≤ n → erDep n e.d = e.depth
  | 0, .code c, _ => rfl
  | 0, .fault a f e, h => by rw [Er.depth] at h; omega
  | n + 1, .code c, _ => rfl
  | n + 1, .fault a f e, h => by
    rw [Er.depth] at h ⊢
    rw [Er.d, erDep, erDep_d n e (by omega)]
theorem awp_nm5 {P : Program} {n : Nat} {c : Code} {K : AEx → Fr → St → Prop} {F : Fr} {σ : St} {b2 b3 b4 b5 : Nat} {x2 x3 x4 y3 x5 : Option Own}
    (h : ∀ c2 c3 c4 c5, c2 = b2 → c3 = b3 → c4 = b4 → c5 = b5 → awp P n c K F (((((σ.set c2 x2).set c3 x3).set c4 x4).set c3 y3).set c5 x5)) : awp P n c K F (((((σ.set b2 x2).set b3 x3).set b4 x4).set b3 y3).set b5 x5) := h _ _ _ _ rfl rfl rfl rfl
theorem tellNilT (σ : St) : Tri Tryd.prog 10 [.v .nilIface] σ fun d τ => d = .agg (told none).d ∧ τ = σ := by
  refine tri_fn Tryd.func10 rfl Tryd.ntmps10 Tryd.results10 (Nat.le_of_ble_eq_true rfl) ?_
  refine' wlk1 noneT
  ((try simp [*]); (try simp (discharger := omega) only [wrap_i64, dec_t, dec_f]))
  exact .mk _ σ (.refl _) leT ⟨rfl, rfl⟩
theorem tell_size (e : Er) (a : Int) (p : ByteArray) : p.size ≤ (e.tell a p).2.size := by
  rw [Er.tell_path, ByteArray.size_append]
  omega
set_option maxHeartbeats 8000000 in
theorem tellT (e : Er) (σ : St) (hb : (e.tell (-1) ByteArray.empty).2.size ≤ 9223372036854775807) : Tri Tryd.prog 10 [e.d] σ fun d τ => d = .agg (told (some e)).d ∧ τ = σ := by
  obtain ⟨ty, y, hd⟩ := e.d_iface'
  have AC := Lib.hid (fun b σ h => asCodeT e b (.i 0) σ h)
  have HB := Lib.hid hb
  have HD := Lib.hid hd
  rw [hd] at AC ⊢
  obtain ⟨inn, hin⟩ : ∃ inn, inn = e.inner := ⟨_, rfl⟩
  rw [← hin] at AC
  have HIN := Lib.hid hin
  clear hb hd hin
  refine tri_fn Tryd.func10 rfl Tryd.ntmps10 Tryd.results10 (Nat.le_of_ble_eq_true rfl) ?_
  repeat (first | ((first | refine aops_cons (fun K9 hO => ?_) | (refine aops_guardT rfl ?_ (fun K9 hO => ?_); (focus (simp [*]; done)))); simp [*]; (try simp (discharger := omega) only [wrap_i64, dec_t, dec_f]); (first | ((try (first | refine .inl ⟨by omega, by omega, ?_⟩ | refine ⟨by omega, by omega, ?_⟩ | refine ⟨by omega, ?_⟩ | refine .inl ?_)); (first | (intro b; intros; (try have hneA := ne_own (b := b) hown1 (by assumption)); (try have hneB := ne_own (b := b) hown2 (by assumption)); (try have hneC := ne_own (b := b) hown3 (by assumption)); refine hO.out _ _ ?_) | refine hO.out _ _ ?_)) | ((first | refine Tri.call (noneT _) ?_ | refine Tri.call (AC.out _ _ (by simp [*])) ?_); (first | rintro _ _ ⟨rfl, h9⟩; replace h9 := h9.symm; subst h9 | rintro _ _ ⟨_, rfl, rfl⟩ | rintro _ _ ⟨_, _, rfl, rfl⟩ | rintro _ _ ⟨_, _, _, rfl, rfl⟩); refine hO.out _ _ ?_)); clear hO; (try clear K9); (first | refine aput_some (by decide) ?_ | refine aput_none ?_)) | refine aops_nil ?_ | refine aseq_normal ?_ | refine aseq_ret ?_ | refine aseq_exit ?_ | refine ablock_normal ?_ | refine ablock_ret ?_ | refine ablock_same ?_ | refine ablock_other (by decide) ?_ | ((repeat ((fail_if_success (refine hK.out _ _ ?_)); clear hK; (try clear hP EG); (try clear KS))); refine hK.out _ _ ?_; clear hK; (try clear hP EG); try clear KS) | refine awp_seq (fun KS hK => ?_) | refine awp_region (fun KS EG hK hP => ?_) | refine awp_block ?_ | refine awp_skip ?_ | refine awp_ret ?_ | refine awp_exit ?_ | (refine awp_condT ?_ ?_; (focus (simp [*]; done))) | (refine awp_condF ?_ ?_; (focus (simp [*]; done))) | ((first | (refine aops_guardF rfl ?_ ?_; (focus (simp [*]; done))) | (refine aops_guardU rfl ?_ ?_; (focus (simp [*]; done)))); (first | refine aput_some (by decide) ?_ | refine aput_none ?_)))
  refine awp_nm5 ?_
  intro b2 b3 b4 b5 e2 e3 e4 e5
  subst e2 e3 e4 e5
  rw [set_over _ _ _ _ (by assumption)]
  obtain ⟨σ1, hσ1⟩ : ∃ σ1, σ1 = (σ.set b2 (some (.box 41 [.i 0, .i 0, .s ByteArray.empty]))).set b4 (some (.box 53 [.i inn])) := ⟨_, rfl⟩
  have hown1 : σ1.own b2 = some (.box 41 [.i 0, .i 0, .s ByteArray.empty]) := by rw [hσ1]; simp [*]
  have hf3 : Fresh σ1 b3 := by rw [hσ1]; simp [*]
  have hf5 : Fresh σ1 b5 := by rw [hσ1]; simp [*]
  have HLE := Lib.hid (show σ.le σ1 from hσ1 ▸ St.le_set (St.le_set (St.le_refl _) (by assumption)) (by assumption))
  rw [← hσ1]
  clear hσ1
  obtain ⟨N, hN⟩ : ∃ N, N = e.depth := ⟨_, rfl⟩
  have HN := Lib.hid hN
  clear hN
  refine awp_loopM [0, 16, 17, 18, 19, 20, 21, 22, 23, 24, 25, 26, 27, 28, 29, 30, 31, 32, 33, 34, 35, 36, 37, 38, 39, 40, 41, 42, 43, 44, 45, 46, 47, 48, 49, 50, 51, 52, 53, 54, 55, 56, 57, 58, 59, 60, 61, 62, 63, 64, 65, 66] (fun X τ => ∃ (e' : Er) (a : Int) (p : ByteArray) (dP : D), X 0 = e'.d ∧ Hid (e'.tell a p = e.tell (-1) ByteArray.empty ∧ e'.depth ≤ N) ∧ τ = (σ1.set b3 (some (.box 41 [.i inn, .i a, .s p]))).set b5 (some (.box 52 [dP]))) (fun X _ => erDep N (X 0)) ?_ ?_
  · refine .same ⟨mix_self _ _, e, -1, ByteArray.empty, .v (.pointer none), ?_, Lib.hid ⟨rfl, by rw [HN.out]; exact Nat.le_refl _⟩, rfl⟩
    rw [HD.out]
    simp [*]
  · rintro X τ ⟨e', a, p, dP, h0, hf, rfl⟩ _ hL
    cases e' with
    | code c =>
      have AM := Lib.hid (fun b σ h => asMissT c b dP σ h)
      have HR := Lib.hid (show told (some e) = ⟨inn, a, p⟩ by
        have := hf.out.1
        rw [Er.tell] at this
        rw [told, ← this, HIN.out])
      rw [Er.d] at h0 AM
      repeat (first | ((first | refine aops_cons (fun K9 hO => ?_) | (refine aops_guardT rfl ?_ (fun K9 hO => ?_); (focus (simp [*]; done)))); simp [*]; (try simp (discharger := omega) only [wrap_i64, dec_t, dec_f]); (first | ((try (first | refine .inl ⟨by omega, by omega, ?_⟩ | refine ⟨by omega, by omega, ?_⟩ | refine ⟨by omega, ?_⟩ | refine .inl ?_)); (first | (intro b; intros; (try have hneA := ne_own (b := b) hown1 (by assumption)); (try have hneB := ne_own (b := b) hown2 (by assumption)); (try have hneC := ne_own (b := b) hown3 (by assumption)); refine hO.out _ _ ?_) | refine hO.out _ _ ?_)) | ((first | refine Tri.call (AM.out _ _ (by simp [*])) ?_); (first | rintro _ _ ⟨rfl, h9⟩; replace h9 := h9.symm; subst h9 | rintro _ _ ⟨_, rfl, rfl⟩ | rintro _ _ ⟨_, _, rfl, rfl⟩ | rintro _ _ ⟨_, _, _, rfl, rfl⟩); refine hO.out _ _ ?_)); clear hO; (try clear K9); (first | refine aput_some (by decide) ?_ | refine aput_none ?_)) | refine aops_nil ?_ | refine aseq_normal ?_ | refine aseq_ret ?_ | refine aseq_exit ?_ | refine ablock_normal ?_ | refine ablock_ret ?_ | refine ablock_same ?_ | refine ablock_other (by decide) ?_ | ((repeat ((fail_if_success (refine hK.out _ _ ?_)); clear hK; (try clear hP EG); (try clear KS))); refine hK.out _ _ ?_; clear hK; (try clear hP EG); try clear KS) | refine awp_seq (fun KS hK => ?_) | refine awp_region (fun KS EG hK hP => ?_) | refine awp_block ?_ | refine awp_skip ?_ | refine awp_ret ?_ | refine awp_exit ?_ | (refine awp_condT ?_ ?_; (focus (simp [*]; done))) | (refine awp_condF ?_ ?_; (focus (simp [*]; done))) | ((first | (refine aops_guardF rfl ?_ ?_; (focus (simp [*]; done))) | (refine aops_guardU rfl ?_ ?_; (focus (simp [*]; done)))); (first | refine aput_some (by decide) ?_ | refine aput_none ?_)))
      ((try simp [*]); (try simp (discharger := omega) only [wrap_i64, dec_t, dec_f]))
      exact .mk _ σ (.refl _) leT ⟨by rw [HR.out]; try rfl, rfl⟩
    | fault fa f e1 =>
      have AF := Lib.hid (fun b σ h => asFaultT fa f e1 b dP σ h)
      have hd1 : erDep N (.iface 52 (.ptr [.i fa, .s f, e1.d])) = e1.depth + 1 := erDep_d N (.fault fa f e1) hf.out.2
      have hd2 := erDep_d N e1 (by have := hf.out.2; rw [Er.depth] at this; omega)
      have HDD := Lib.hid (And.intro hd1 hd2)
      clear hd1 hd2
      have hsz : (e1.tell (if 0 ≤ fa ∧ a < 0 then fa else a) (if ¬ f = ⟨#[]⟩ ∨ fa < 0 then p ++ (ByteArray.mk #[47] ++ f) else p)) = e.tell (-1) ByteArray.empty := hf.out.1
      have HSZ := Lib.hid hsz
      clear hsz
      rw [Er.d] at h0 AF
      by_cases c1 : 0 ≤ fa
      · by_cases c2 : a < 0
        · by_cases c3 : f = ⟨#[]⟩
          · subst c3
            have hs2 := HSZ.out
            rw [show (if 0 ≤ fa ∧ a < 0 then fa else a) = fa from if_pos ⟨c1, c2⟩, if_neg (by rintro (h | h); exact h rfl; omega)] at hs2
            have HS := Lib.hid hs2
            clear hs2
            repeat (first | ((first | refine aops_cons (fun K9 hO => ?_) | (refine aops_guardT rfl ?_ (fun K9 hO => ?_); (focus (simp [*]; done)))); simp [*]; (try simp (discharger := omega) only [wrap_i64, dec_t, dec_f]); (first | ((try (first | refine .inl ⟨by omega, by omega, ?_⟩ | refine ⟨by omega, by omega, ?_⟩ | refine ⟨by omega, ?_⟩ | refine .inl ?_)); (first | (intro b; intros; (try have hneA := ne_own (b := b) hown1 (by assumption)); (try have hneB := ne_own (b := b) hown2 (by assumption)); (try have hneC := ne_own (b := b) hown3 (by assumption)); refine hO.out _ _ ?_) | refine hO.out _ _ ?_)) | ((first | refine Tri.call (AF.out _ _ (by simp [*])) ?_); (first | rintro _ _ ⟨rfl, h9⟩; replace h9 := h9.symm; subst h9 | rintro _ _ ⟨_, rfl, rfl⟩ | rintro _ _ ⟨_, _, rfl, rfl⟩ | rintro _ _ ⟨_, _, _, rfl, rfl⟩); refine hO.out _ _ ?_)); clear hO; (try clear K9); (first | refine aput_some (by decide) ?_ | refine aput_none ?_)) | refine aops_nil ?_ | refine aseq_normal ?_ | refine aseq_ret ?_ | refine aseq_exit ?_ | refine ablock_normal ?_ | refine ablock_ret ?_ | refine ablock_same ?_ | refine ablock_other (by decide) ?_ | ((repeat ((fail_if_success (refine hK.out _ _ ?_)); clear hK; (try clear hP EG); (try clear KS))); refine hK.out _ _ ?_; clear hK; (try clear hP EG); try clear KS) | refine awp_seq (fun KS hK => ?_) | refine awp_region (fun KS EG hK hP => ?_) | refine awp_block ?_ | refine awp_skip ?_ | refine awp_ret ?_ | refine awp_exit ?_ | (refine awp_condT ?_ ?_; (focus (simp [*]; done))) | (refine awp_condF ?_ ?_; (focus (simp [*]; done))) | ((first | (refine aops_guardF rfl ?_ ?_; (focus (simp [*]; done))) | (refine aops_guardU rfl ?_ ?_; (focus (simp [*]; done)))); (first | refine aput_some (by decide) ?_ | refine aput_none ?_)))
            refine hL.out _ _ (.less ((σ1.set b3 _).set b5 _) (by first | exact St.le_refl _ | (rw [set_over _ _ _ _ (by assumption), set_comm σ1 (show b5 ≠ b3 by assumption)]; exact St.le_refl _)) (.same ⟨mixT, ⟨e1, fa, p, _, ?_, Lib.hid ⟨HS.out, by have := hf.out.2; rw [Er.depth] at this; omega⟩, rfl⟩, ?_⟩))
            · simp [*]
            · have hm1 := HDD.out.1
              have hm2 := HDD.out.2
              simp [*]
          · have hs2 := HSZ.out
            rw [show (if 0 ≤ fa ∧ a < 0 then fa else a) = fa from if_pos ⟨c1, c2⟩, if_pos (.inl c3)] at hs2
            have HS := Lib.hid hs2
            have hl := tell_size e1 fa (p ++ (ByteArray.mk #[47] ++ f))
            rw [hs2] at hl
            have hl2 := Nat.le_trans hl HB.out
            have e47 : (ByteArray.mk #[47]).size = 1 := rfl
            rw [ByteArray.size_append, ByteArray.size_append, e47] at hl2
            clear hs2 hl
            repeat (first | ((first | refine aops_cons (fun K9 hO => ?_) | (refine aops_guardT rfl ?_ (fun K9 hO => ?_); (focus (simp [*]; done)))); simp [*]; (try simp (discharger := omega) only [wrap_i64, dec_t, dec_f]); (first | ((try (first | refine .inl ⟨by omega, by omega, ?_⟩ | refine ⟨by omega, by omega, ?_⟩ | refine ⟨by omega, ?_⟩ | refine .inl ?_)); (first | (intro b; intros; (try have hneA := ne_own (b := b) hown1 (by assumption)); (try have hneB := ne_own (b := b) hown2 (by assumption)); (try have hneC := ne_own (b := b) hown3 (by assumption)); refine hO.out _ _ ?_) | refine hO.out _ _ ?_)) | ((first | refine Tri.call (AF.out _ _ (by simp [*])) ?_); (first | rintro _ _ ⟨rfl, h9⟩; replace h9 := h9.symm; subst h9 | rintro _ _ ⟨_, rfl, rfl⟩ | rintro _ _ ⟨_, _, rfl, rfl⟩ | rintro _ _ ⟨_, _, _, rfl, rfl⟩); refine hO.out _ _ ?_)); clear hO; (try clear K9); (first | refine aput_some (by decide) ?_ | refine aput_none ?_)) | refine aops_nil ?_ | refine aseq_normal ?_ | refine aseq_ret ?_ | refine aseq_exit ?_ | refine ablock_normal ?_ | refine ablock_ret ?_ | refine ablock_same ?_ | refine ablock_other (by decide) ?_ | ((repeat ((fail_if_success (refine hK.out _ _ ?_)); clear hK; (try clear hP EG); (try clear KS))); refine hK.out _ _ ?_; clear hK; (try clear hP EG); try clear KS) | refine awp_seq (fun KS hK => ?_) | refine awp_region (fun KS EG hK hP => ?_) | refine awp_block ?_ | refine awp_skip ?_ | refine awp_ret ?_ | refine awp_exit ?_ | (refine awp_condT ?_ ?_; (focus (simp [*]; done))) | (refine awp_condF ?_ ?_; (focus (simp [*]; done))) | ((first | (refine aops_guardF rfl ?_ ?_; (focus (simp [*]; done))) | (refine aops_guardU rfl ?_ ?_; (focus (simp [*]; done)))); (first | refine aput_some (by decide) ?_ | refine aput_none ?_)))
            (refine awp_draw (fun KS EG hK hP => ?_); refine draw_rule rfl [(0, true), (1, false), (2, false), (3, true), (4, true), (5, false), (6, true), (7, true), (8, true)] [] [9] (by kernel_rfl) ?_; refine' dqs0)
            refine' wlk0
            refine hL.out _ _ (.less ((σ1.set b3 _).set b5 _) (by first | exact St.le_refl _ | (rw [set_over _ _ _ _ (by assumption), set_comm σ1 (show b5 ≠ b3 by assumption)]; exact St.le_refl _)) (.same ⟨mixT, ⟨e1, fa, _, _, ?_, Lib.hid ⟨HS.out, by have := hf.out.2; rw [Er.depth] at this; omega⟩, rfl⟩, ?_⟩))
            · simp [*]
            · have hm1 := HDD.out.1
              have hm2 := HDD.out.2
              simp [*]
        · by_cases c3 : f = ⟨#[]⟩
          · subst c3
            have hs2 := HSZ.out
            rw [show (if 0 ≤ fa ∧ a < 0 then fa else a) = a from if_neg (by omega), if_neg (by rintro (h | h); exact h rfl; omega)] at hs2
            have HS := Lib.hid hs2
            clear hs2
            repeat (first | ((first | refine aops_cons (fun K9 hO => ?_) | (refine aops_guardT rfl ?_ (fun K9 hO => ?_); (focus (simp [*]; done)))); simp [*]; (try simp (discharger := omega) only [wrap_i64, dec_t, dec_f]); (first | ((try (first | refine .inl ⟨by omega, by omega, ?_⟩ | refine ⟨by omega, by omega, ?_⟩ | refine ⟨by omega, ?_⟩ | refine .inl ?_)); (first | (intro b; intros; (try have hneA := ne_own (b := b) hown1 (by assumption)); (try have hneB := ne_own (b := b) hown2 (by assumption)); (try have hneC := ne_own (b := b) hown3 (by assumption)); refine hO.out _ _ ?_) | refine hO.out _ _ ?_)) | ((first | refine Tri.call (AF.out _ _ (by simp [*])) ?_); (first | rintro _ _ ⟨rfl, h9⟩; replace h9 := h9.symm; subst h9 | rintro _ _ ⟨_, rfl, rfl⟩ | rintro _ _ ⟨_, _, rfl, rfl⟩ | rintro _ _ ⟨_, _, _, rfl, rfl⟩); refine hO.out _ _ ?_)); clear hO; (try clear K9); (first | refine aput_some (by decide) ?_ | refine aput_none ?_)) | refine aops_nil ?_ | refine aseq_normal ?_ | refine aseq_ret ?_ | refine aseq_exit ?_ | refine ablock_normal ?_ | refine ablock_ret ?_ | refine ablock_same ?_ | refine ablock_other (by decide) ?_ | ((repeat ((fail_if_success (refine hK.out _ _ ?_)); clear hK; (try clear hP EG); (try clear KS))); refine hK.out _ _ ?_; clear hK; (try clear hP EG); try clear KS) | refine awp_seq (fun KS hK => ?_) | refine awp_region (fun KS EG hK hP => ?_) | refine awp_block ?_ | refine awp_skip ?_ | refine awp_ret ?_ | refine awp_exit ?_ | (refine awp_condT ?_ ?_; (focus (simp [*]; done))) | (refine awp_condF ?_ ?_; (focus (simp [*]; done))) | ((first | (refine aops_guardF rfl ?_ ?_; (focus (simp [*]; done))) | (refine aops_guardU rfl ?_ ?_; (focus (simp [*]; done)))); (first | refine aput_some (by decide) ?_ | refine aput_none ?_)))
            refine hL.out _ _ (.less ((σ1.set b3 _).set b5 _) (by first | exact St.le_refl _ | (rw [set_over _ _ _ _ (by assumption), set_comm σ1 (show b5 ≠ b3 by assumption)]; exact St.le_refl _)) (.same ⟨mixT, ⟨e1, a, p, _, ?_, Lib.hid ⟨HS.out, by have := hf.out.2; rw [Er.depth] at this; omega⟩, rfl⟩, ?_⟩))
            · simp [*]
            · have hm1 := HDD.out.1
              have hm2 := HDD.out.2
              simp [*]
          · have hs2 := HSZ.out
            rw [show (if 0 ≤ fa ∧ a < 0 then fa else a) = a from if_neg (by omega), if_pos (.inl c3)] at hs2
            have HS := Lib.hid hs2
            have hl := tell_size e1 a (p ++ (ByteArray.mk #[47] ++ f))
            rw [hs2] at hl
            have hl2 := Nat.le_trans hl HB.out
            have e47 : (ByteArray.mk #[47]).size = 1 := rfl
            rw [ByteArray.size_append, ByteArray.size_append, e47] at hl2
            clear hs2 hl
            repeat (first | ((first | refine aops_cons (fun K9 hO => ?_) | (refine aops_guardT rfl ?_ (fun K9 hO => ?_); (focus (simp [*]; done)))); simp [*]; (try simp (discharger := omega) only [wrap_i64, dec_t, dec_f]); (first | ((try (first | refine .inl ⟨by omega, by omega, ?_⟩ | refine ⟨by omega, by omega, ?_⟩ | refine ⟨by omega, ?_⟩ | refine .inl ?_)); (first | (intro b; intros; (try have hneA := ne_own (b := b) hown1 (by assumption)); (try have hneB := ne_own (b := b) hown2 (by assumption)); (try have hneC := ne_own (b := b) hown3 (by assumption)); refine hO.out _ _ ?_) | refine hO.out _ _ ?_)) | ((first | refine Tri.call (AF.out _ _ (by simp [*])) ?_); (first | rintro _ _ ⟨rfl, h9⟩; replace h9 := h9.symm; subst h9 | rintro _ _ ⟨_, rfl, rfl⟩ | rintro _ _ ⟨_, _, rfl, rfl⟩ | rintro _ _ ⟨_, _, _, rfl, rfl⟩); refine hO.out _ _ ?_)); clear hO; (try clear K9); (first | refine aput_some (by decide) ?_ | refine aput_none ?_)) | refine aops_nil ?_ | refine aseq_normal ?_ | refine aseq_ret ?_ | refine aseq_exit ?_ | refine ablock_normal ?_ | refine ablock_ret ?_ | refine ablock_same ?_ | refine ablock_other (by decide) ?_ | ((repeat ((fail_if_success (refine hK.out _ _ ?_)); clear hK; (try clear hP EG); (try clear KS))); refine hK.out _ _ ?_; clear hK; (try clear hP EG); try clear KS) | refine awp_seq (fun KS hK => ?_) | refine awp_region (fun KS EG hK hP => ?_) | refine awp_block ?_ | refine awp_skip ?_ | refine awp_ret ?_ | refine awp_exit ?_ | (refine awp_condT ?_ ?_; (focus (simp [*]; done))) | (refine awp_condF ?_ ?_; (focus (simp [*]; done))) | ((first | (refine aops_guardF rfl ?_ ?_; (focus (simp [*]; done))) | (refine aops_guardU rfl ?_ ?_; (focus (simp [*]; done)))); (first | refine aput_some (by decide) ?_ | refine aput_none ?_)))
            (refine awp_draw (fun KS EG hK hP => ?_); refine draw_rule rfl [(0, true), (1, false), (2, false), (3, true), (4, true), (5, false), (6, true), (7, true), (8, true)] [] [9] (by kernel_rfl) ?_; refine' dqs0)
            refine' wlk0
            refine hL.out _ _ (.less ((σ1.set b3 _).set b5 _) (by first | exact St.le_refl _ | (rw [set_over _ _ _ _ (by assumption), set_comm σ1 (show b5 ≠ b3 by assumption)]; exact St.le_refl _)) (.same ⟨mixT, ⟨e1, a, _, _, ?_, Lib.hid ⟨HS.out, by have := hf.out.2; rw [Er.depth] at this; omega⟩, rfl⟩, ?_⟩))
            · simp [*]
            · have hm1 := HDD.out.1
              have hm2 := HDD.out.2
              simp [*]
      · have c1' : fa < 0 := by omega
        by_cases c3 : f = ⟨#[]⟩
        · subst c3
          have hs2 := HSZ.out
          rw [show (if 0 ≤ fa ∧ a < 0 then fa else a) = a from if_neg (by omega), if_pos (.inr c1')] at hs2
          have HS := Lib.hid hs2
          have hl := tell_size e1 a (p ++ (ByteArray.mk #[47] ++ ⟨#[]⟩))
          rw [hs2] at hl
          have hl2 := Nat.le_trans hl HB.out
          have e47 : (ByteArray.mk #[47]).size = 1 := rfl
          rw [ByteArray.size_append, ByteArray.size_append, e47] at hl2
          clear hs2 hl
          repeat (first | ((first | refine aops_cons (fun K9 hO => ?_) | (refine aops_guardT rfl ?_ (fun K9 hO => ?_); (focus (simp [*]; done)))); simp [*]; (try simp (discharger := omega) only [wrap_i64, dec_t, dec_f]); (first | ((try (first | refine .inl ⟨by omega, by omega, ?_⟩ | refine ⟨by omega, by omega, ?_⟩ | refine ⟨by omega, ?_⟩ | refine .inl ?_)); (first | (intro b; intros; (try have hneA := ne_own (b := b) hown1 (by assumption)); (try have hneB := ne_own (b := b) hown2 (by assumption)); (try have hneC := ne_own (b := b) hown3 (by assumption)); refine hO.out _ _ ?_) | refine hO.out _ _ ?_)) | ((first | refine Tri.call (AF.out _ _ (by simp [*])) ?_); (first | rintro _ _ ⟨rfl, h9⟩; replace h9 := h9.symm; subst h9 | rintro _ _ ⟨_, rfl, rfl⟩ | rintro _ _ ⟨_, _, rfl, rfl⟩ | rintro _ _ ⟨_, _, _, rfl, rfl⟩); refine hO.out _ _ ?_)); clear hO; (try clear K9); (first | refine aput_some (by decide) ?_ | refine aput_none ?_)) | refine aops_nil ?_ | refine aseq_normal ?_ | refine aseq_ret ?_ | refine aseq_exit ?_ | refine ablock_normal ?_ | refine ablock_ret ?_ | refine ablock_same ?_ | refine ablock_other (by decide) ?_ | ((repeat ((fail_if_success (refine hK.out _ _ ?_)); clear hK; (try clear hP EG); (try clear KS))); refine hK.out _ _ ?_; clear hK; (try clear hP EG); try clear KS) | refine awp_seq (fun KS hK => ?_) | refine awp_region (fun KS EG hK hP => ?_) | refine awp_block ?_ | refine awp_skip ?_ | refine awp_ret ?_ | refine awp_exit ?_ | (refine awp_condT ?_ ?_; (focus (simp [*]; done))) | (refine awp_condF ?_ ?_; (focus (simp [*]; done))) | ((first | (refine aops_guardF rfl ?_ ?_; (focus (simp [*]; done))) | (refine aops_guardU rfl ?_ ?_; (focus (simp [*]; done)))); (first | refine aput_some (by decide) ?_ | refine aput_none ?_)))
          (refine awp_draw (fun KS EG hK hP => ?_); refine draw_rule rfl [(0, true), (1, false), (2, false), (3, true), (4, true), (5, false), (6, true), (7, true), (8, true)] [] [9] (by kernel_rfl) ?_; refine' dqs0)
          refine' wlk0
          refine hL.out _ _ (.less ((σ1.set b3 _).set b5 _) (by first | exact St.le_refl _ | (rw [set_over _ _ _ _ (by assumption), set_comm σ1 (show b5 ≠ b3 by assumption)]; exact St.le_refl _)) (.same ⟨mixT, ⟨e1, a, _, _, ?_, Lib.hid ⟨HS.out, by have := hf.out.2; rw [Er.depth] at this; omega⟩, rfl⟩, ?_⟩))
          · simp [*]
          · have hm1 := HDD.out.1
            have hm2 := HDD.out.2
            simp [*]
        · have hs2 := HSZ.out
          rw [show (if 0 ≤ fa ∧ a < 0 then fa else a) = a from if_neg (by omega), if_pos (.inl c3)] at hs2
          have HS := Lib.hid hs2
          have hl := tell_size e1 a (p ++ (ByteArray.mk #[47] ++ f))
          rw [hs2] at hl
          have hl2 := Nat.le_trans hl HB.out
          have e47 : (ByteArray.mk #[47]).size = 1 := rfl
          rw [ByteArray.size_append, ByteArray.size_append, e47] at hl2
          clear hs2 hl
          repeat (first | ((first | refine aops_cons (fun K9 hO => ?_) | (refine aops_guardT rfl ?_ (fun K9 hO => ?_); (focus (simp [*]; done)))); simp [*]; (try simp (discharger := omega) only [wrap_i64, dec_t, dec_f]); (first | ((try (first | refine .inl ⟨by omega, by omega, ?_⟩ | refine ⟨by omega, by omega, ?_⟩ | refine ⟨by omega, ?_⟩ | refine .inl ?_)); (first | (intro b; intros; (try have hneA := ne_own (b := b) hown1 (by assumption)); (try have hneB := ne_own (b := b) hown2 (by assumption)); (try have hneC := ne_own (b := b) hown3 (by assumption)); refine hO.out _ _ ?_) | refine hO.out _ _ ?_)) | ((first | refine Tri.call (AF.out _ _ (by simp [*])) ?_); (first | rintro _ _ ⟨rfl, h9⟩; replace h9 := h9.symm; subst h9 | rintro _ _ ⟨_, rfl, rfl⟩ | rintro _ _ ⟨_, _, rfl, rfl⟩ | rintro _ _ ⟨_, _, _, rfl, rfl⟩); refine hO.out _ _ ?_)); clear hO; (try clear K9); (first | refine aput_some (by decide) ?_ | refine aput_none ?_)) | refine aops_nil ?_ | refine aseq_normal ?_ | refine aseq_ret ?_ | refine aseq_exit ?_ | refine ablock_normal ?_ | refine ablock_ret ?_ | refine ablock_same ?_ | refine ablock_other (by decide) ?_ | ((repeat ((fail_if_success (refine hK.out _ _ ?_)); clear hK; (try clear hP EG); (try clear KS))); refine hK.out _ _ ?_; clear hK; (try clear hP EG); try clear KS) | refine awp_seq (fun KS hK => ?_) | refine awp_region (fun KS EG hK hP => ?_) | refine awp_block ?_ | refine awp_skip ?_ | refine awp_ret ?_ | refine awp_exit ?_ | (refine awp_condT ?_ ?_; (focus (simp [*]; done))) | (refine awp_condF ?_ ?_; (focus (simp [*]; done))) | ((first | (refine aops_guardF rfl ?_ ?_; (focus (simp [*]; done))) | (refine aops_guardU rfl ?_ ?_; (focus (simp [*]; done)))); (first | refine aput_some (by decide) ?_ | refine aput_none ?_)))
          (refine awp_draw (fun KS EG hK hP => ?_); refine draw_rule rfl [(0, true), (1, false), (2, false), (3, true), (4, true), (5, false), (6, true), (7, true), (8, true)] [] [9] (by kernel_rfl) ?_; refine' dqs0)
          refine' wlk0
          refine hL.out _ _ (.less ((σ1.set b3 _).set b5 _) (by first | exact St.le_refl _ | (rw [set_over _ _ _ _ (by assumption), set_comm σ1 (show b5 ≠ b3 by assumption)]; exact St.le_refl _)) (.same ⟨mixT, ⟨e1, a, _, _, ?_, Lib.hid ⟨HS.out, by have := hf.out.2; rw [Er.depth] at this; omega⟩, rfl⟩, ?_⟩))
          · simp [*]
          · have hm1 := HDD.out.1
            have hm2 := HDD.out.2
            simp [*]
end Go.Proofs.YtmpbofmhjjgccaaDoor
/-
  Less is known of what a function is called with.
-/
namespace Go.Proofs.YtmpbofmhjjgccaaDoor
open Go.RowKit

theorem Tri.args {P : Program} {f : FuncId} {ds ds' : List D} {σ : St} {R : D → St → Prop} (h : Tri P f ds σ R) (hl : LeL ds' ds) : Tri P f ds' σ R := fun base w G vs hS hA => h base w G vs hS ⟨hA.len.trans hl.len, fun k x d hx hd => by
  have hlt : k < ds'.length := by rw [hl.len]; exact (List.getElem?_eq_some_iff.1 hd).1
  exact Rep.le (hl.at k _ d (List.getElem?_eq_getElem hlt) hd) (hA.rep k x _ hx (List.getElem?_eq_getElem hlt))⟩
end Go.Proofs.YtmpbofmhjjgccaaDoor
/-
  The law SearchFinds.
-/
namespace Go.Proofs.YtmpbofmhjjgccaaDoor
open Go.RowKit
set_option maxRecDepth 100000
set_option linter.unusedVariables false
set_option linter.unusedSimpArgs false
attribute [local irreducible] awp aops aop aput aseq ablock TriX Tri Ret Fresh dq adraw dtail dals dfin Wk
attribute [local simp] SVd ErT.d

theorem fitsT (q : QV) (x : SV) (dt : D) (σ : St) {nl' : Bool} {tip' : Option (Nat × Nat)} {full' : Bool} (hdt : dt.list = some (nl', tip', full', 1, q.types.map fun t => [D.s t])) (hl : q.types.length ≤ 1000) (hq : q.term.size ≤ maxLen) (hx : SmallS x) :
    Tri Tryd.prog 12 [.agg [.s q.term, dt, .i q.limit, .i q.since], .agg (SVd x)] σ fun d τ => d = .b (fitsB q x) ∧ τ = σ := by
  unfold Tri TriX
  intro base w G vs hS hA
  obtain ⟨y, xs, rfl, hy, hA⟩ := hA.inv
  obtain ⟨z, xs, rfl, hz, hA⟩ := hA.inv
  cases hA.inv0
  obtain ⟨c, hc, p, htv⟩ : ∃ us : List Value, y = .agg us.toArray ∧ RepL G us [.s q.term, dt, .i q.limit, .i q.since] := by
    cases hy with
    | agg us cs hl h1 hrep => exact ⟨us, rfl, hl, hrep⟩
  subst hc
  obtain ⟨u0, us, rfl, r0, hA⟩ := (RepL.mk p htv).inv
  obtain ⟨u1, us, rfl, r1, hA⟩ := hA.inv
  obtain ⟨u2, us, rfl, r2, hA⟩ := hA.inv
  obtain ⟨u3, us, rfl, r3, hA⟩ := hA.inv
  cases hA.inv0
  cases r0.v_inv
  cases r2.v_inv
  cases r3.v_inv
  obtain rfl : z = .agg x.cells.toArray := by
    cases hz with
    | agg us cs hl h1 hrep =>
      have hu : us = x.cells := RepL.lits (us := us) (vs := x.cells) ⟨hl, hrep⟩
      rw [hu]
  obtain ⟨pt, ct, rfl, hT⟩ : ∃ pt ct, u1 = .slice pt q.types.length ct ∧ TypesAt w pt q.types := by
    rw [types_map] at hdt
    rcases r1.cells_at _ hS hdt with ⟨e2, a, c, e1⟩ | ⟨g, o, c, e1, e2, e3⟩
    · have e2 : q.types = [] := by simpa using e2
      exact ⟨a, c, by rw [e1, e2]; rfl, .inl e2⟩
    · rw [List.length_map] at e1
      refine ⟨_, _, e1, .inr ⟨g, o, rfl, fun j hj => ?_⟩⟩
      refine e3 j _ ?_
      have : (q.types.map fun t => [Value.string t]).flatten = q.types.map Value.string := by
        generalize q.types = z
        induction z with
        | nil => rfl
        | cons a z ih => simp only [List.map_cons, List.flatten_cons, ih]; rfl
      rw [this, List.getElem?_map, List.getElem?_eq_getElem hj, List.getD_eq_getElem?_getD, List.getElem?_eq_getElem hj]
      rfl
  refine (fits_any q pt ct x w (maxAt hS) hT hl hq hx).mono ?_
  rintro e w' ⟨rfl, hb⟩
  exact ⟨σ, G, Gh.le_refl G, hS.grow hb, .inl ⟨_, _, rfl, .v _, rfl, rfl⟩⟩
def awQ : QV := { term := ⟨#[72, 65, 76, 76]⟩, types := [], limit := 5, since := 0 }
def awA : SV := { room := ⟨#[33, 97, 58, 120]⟩, typ := ⟨#[]⟩, name := ⟨#[84, 104, 101, 32, 104, 97, 108, 108]⟩, topic := ⟨#[]⟩, alias := ⟨#[]⟩, avatar := ⟨#[]⟩, rule := ⟨#[]⟩, joined := 0, readable := false, guests := false }
def awB : SV := { room := ⟨#[33, 98, 58, 120]⟩, typ := ⟨#[]⟩, name := ⟨#[]⟩, topic := ⟨#[]⟩, alias := ⟨#[]⟩, avatar := ⟨#[]⟩, rule := ⟨#[]⟩, joined := 0, readable := false, guests := false }
theorem aw_ans : ansD awQ [awA, awB] = .agg [.lst false 10 [SVd awA], .i 1, .i (-1), .i (-1)] := by kernel_rfl
theorem small_of (x : SV) (h : shortB x = true) : SmallS x := by
  unfold shortB at h
  rw [decide_eq_true_eq] at h
  exact ⟨by omega, by omega, by omega⟩
set_option maxHeartbeats 4000000 in
theorem awakeT (σ : St) : Tri Tryd.prog 4 [] σ fun d τ => d = .b true ∧ τ = σ := by
  have FD := Lib.hid (fun σ => findT awQ [awA, awB] (.slice none true 10 [SVd awA, SVd awB]) (.v (.slice none 0 0)) σ (nl' := false) (tip' := none) (full' := false) (.inr ⟨by simp, rfl⟩) (.inl ⟨rfl, rfl⟩) (by simp)
    (fun x hx => small_of x (by
      rcases List.mem_cons.1 hx with rfl | hx
      · decide
      · rw [List.mem_singleton.1 hx]
        decide)) (by simp [awQ]) (by decide) (by decide) (by decide) (by decide) (by decide))
  have aw := aw_ans
  unfold ansD at aw
  simp only [aw] at FD
  clear aw
  have hr : awA.room = ⟨#[33, 97, 58, 120]⟩ := rfl
  refine tri_fn Tryd.func4 rfl Tryd.ntmps4 Tryd.results4 (Nat.le_of_ble_eq_true rfl) ?_
  refine' wlk1 FD.out
  ((try simp [*]); (try simp (discharger := omega) only [wrap_i64, dec_t, dec_f]))
  exact .mk _ σ (.refl _) leT ⟨rfl, rfl⟩
theorem few_of {l : List SV} {q : QV} (h : fewB l q = true) : (∀ x ∈ l, shortB x = true) ∧ l.length ≤ 80 ∧ q.term.size ≤ 100 ∧ q.types.length ≤ 10 := by
  unfold fewB at h
  simp only [Bool.and_eq_true, decide_eq_true_eq, List.all_eq_true] at h
  exact ⟨h.1, h.2.1.1, h.2.1.2, h.2.2⟩
theorem realD_or (l : List SV) : (l = [] ∧ realD l = .v (.slice none 0 0)) ∨ (l ≠ [] ∧ (realD l).list = some (false, none, false, 10, l.map SVd)) := by
  cases l with
  | nil => exact .inl ⟨rfl, rfl⟩
  | cons x l => exact .inr ⟨by simp, rfl⟩
theorem zero_ans : LeL [.agg [.v (.slice none 0 0), .i 0, .i 0, .i 0]] [noAnsD] := .cons (.aggL (.cons (.nil false 10) (.cons (.refl _) (.cons (.refl _) (.cons (.refl _) .nil))))) .nil
set_option maxHeartbeats 8000000 in
theorem searchFindsT (l : List SV) (q : QV) (hl : l.length ≤ 9223372036854775807) (hx : ∀ x ∈ l, x.name.size ≤ 140737488351232 ∧ x.topic.size ≤ 140737488351232 ∧ x.alias.size ≤ 140737488351232) (hty : q.types.length ≤ 9223372036854775807) (hsi : q.since ≤ 9223372036854775807) (σ : St) :
    Tri Tryd.prog 3 [SVsD l, .agg (QVd q)] σ fun d τ => d = .b true ∧ τ = σ := by
  have AW := Lib.hid awakeT
  have FW := Lib.hid (fun σ => fewT l q σ hl hty hx)
  clear hx hl hty
  cases hf : fewB l q with
  | false =>
    rw [hf] at FW
    unfold SVsD QVd at FW ⊢
    refine tri_fn Tryd.func3 rfl Tryd.ntmps3 Tryd.results3 (Nat.le_of_ble_eq_true rfl) ?_
    refine' wlk2 AW.out FW.out
    ((try simp [*]); (try simp (discharger := omega) only [wrap_i64, dec_t, dec_f]))
    exact .mk _ σ (.refl _) leT ⟨rfl, rfl⟩
  | true =>
    rw [hf] at FW
    obtain ⟨f1, f2, f3, f4⟩ := few_of hf
    clear hf
    have f5 : ∀ x ∈ l, x.name.size ≤ 1000000 ∧ x.topic.size ≤ 1000000 ∧ x.alias.size ≤ 1000000 := fun x hx => by
      have := f1 x hx
      unfold shortB at this
      rw [decide_eq_true_eq] at this
      omega
    have RL := Lib.hid (fun σ => realT l σ (by omega))
    have QT := Lib.hid (fun σ => questionT q σ (by omega))
    have FT := Lib.hid (fun (k : Nat) (h : k < l.length) σ => fitsT q l[k] (.slice none false 1 (q.types.map fun t => [D.s t])) σ (nl' := false) (tip' := none) (full' := false) rfl (by omega) (by unfold maxLen; omega) (small_of _ (f1 _ (List.getElem_mem h))))
    have RT := Lib.hid (fun (k : Nat) (h : k < l.length) σ => refFitsT q l[k] σ (by omega) (f5 _ (List.getElem_mem h)).1 (f5 _ (List.getElem_mem h)).2.1 (f5 _ (List.getElem_mem h)).2.2 (by omega))
    have REST : ∃ (an : D) (er : Option Er), (∀ σ, Tri Tryd.prog 6 [realD l, .agg [.s q.term, .slice none false 1 (q.types.map fun t => [D.s t]), .i q.limit, .i q.since]] σ fun d τ => d = .tup [an, erD er] ∧ τ = σ) ∧
        (∀ σ, Tri Tryd.prog 9 [SVsD l, .agg (QVd q)] σ fun d τ => d = .tup [an, .agg (told er).d] ∧ τ = σ) ∧ (∀ σ, Tri Tryd.prog 10 [erD er] σ fun d τ => d = .agg (told er).d ∧ τ = σ) ∧
        ((∃ cs, an = .agg cs ∧ cs.length = 4) ∧ ((told er).code = 0 → ∀ σ, Tri Tryd.prog 11 [an, an] σ fun d τ => d = .b true ∧ τ = σ) ∧
          (¬ (told er).code = 0 → ∀ σ, Tri Tryd.prog 11 [an, .agg [.v (.slice none 0 0), .i 0, .i 0, .i 0]] σ fun d τ => d = .b true ∧ τ = σ)) := by
      have tw : ∀ f : ByteArray, told (some (.fault (-1) f (.code 8))) = ErT.in_ f (ErT.err 8) := fun f => by
        rw [told_in f (.code 8) (by simp [Er.inner])]
        rfl
      have isz : ∀ σ, Tri Tryd.prog 11 [noAnsD, .agg [.v (.slice none 0 0), .i 0, .i 0, .i 0]] σ fun d τ => d = .b true ∧ τ = σ := fun σ =>
        (isAnsT [] 0 0 0 σ (by simp)).args (.cons (.refl _) zero_ans)
      by_cases hb : q.limit < 1 ∨ 50 < q.limit
      · refine ⟨noAnsD, some (.fault (-1) limitB (.code 8)), fun σ => findBad1T _ _ _ _ _ σ hb, fun σ => ?_, fun σ => ?_, ⟨_, rfl, rfl⟩, fun h => ?_, fun _ => isz⟩
        · rw [tw]
          exact refBad1T _ _ _ _ _ σ hb
        · exact tellT _ σ (by decide)
        · simp [told, Er.inner] at h
      · by_cases hs : q.since < 0
        · refine ⟨noAnsD, some (.fault (-1) sinceB (.code 8)), fun σ => findBad2T _ _ _ _ _ σ (by omega) (by omega) hs, fun σ => ?_, fun σ => ?_, ⟨_, rfl, rfl⟩, fun h => ?_, fun _ => isz⟩
          · rw [tw]
            exact refBad2T _ _ _ _ _ σ (by omega) (by omega) hs
          · exact tellT _ σ (by decide)
          · simp [told, Er.inner] at h
        · refine ⟨ansD q l, none, fun σ => findT q l _ _ σ (realD_or l) (.inr rfl) (by omega) (fun x hx => small_of x (f1 x hx)) (by omega) (by unfold maxLen; omega) (by omega) (by omega) (by omega) hsi,
            fun σ => refFindT l q σ (by omega) f5 (by omega) (by omega) (by omega) (by omega) (by omega) hsi, fun σ => tellNilT σ, ⟨_, rfl, rfl⟩, fun _ σ => isAnsT _ _ _ _ σ ?_, fun h => absurd rfl h⟩
          unfold pageL restL fitL
          rw [List.length_take, List.length_drop]
          have := List.length_filter_le (fitsB q) l
          omega
    obtain ⟨an, er, FD, RF, TE, ⟨cs, rfl, hcs⟩, I0, I1⟩ := REST
    replace FD := Lib.hid FD
    replace RF := Lib.hid RF
    replace TE := Lib.hid TE
    replace I0 := Lib.hid I0
    replace I1 := Lib.hid I1
    obtain ⟨et, het⟩ : ∃ et, et = told er := ⟨_, rfl⟩
    obtain ⟨de, hde⟩ : ∃ de, de = erD er := ⟨_, rfl⟩
    obtain ⟨dr, hdr⟩ : ∃ dr, dr = realD l := ⟨_, rfl⟩
    rw [← het] at RF TE I0 I1
    rw [← hde] at FD TE
    rw [← hdr] at FD RL
    have EQ := Lib.hid (eqE21 et)
    clear het hde hdr f1 f5 hsi
    have hc4 : cs.take 4 = cs := List.take_of_length_le (by omega)
    have hl3 : l.length ≤ 1000 := by omega
    unfold SVsD at FW RL RF ⊢
    unfold QVd at FW RF QT RT ⊢
    obtain ⟨dq, hdq⟩ : ∃ dq, dq = D.lst false 1 (q.types.map fun t => [D.s t]) := ⟨_, rfl⟩
    obtain ⟨dt, hdt⟩ : ∃ dt, dt = D.slice none false 1 (q.types.map fun t => [D.s t]) := ⟨_, rfl⟩
    rw [← hdq] at FW RF QT RT ⊢
    rw [← hdt] at FD QT FT
    clear hdq hdt
    refine tri_fn Tryd.func3 rfl Tryd.ntmps3 Tryd.results3 (Nat.le_of_ble_eq_true rfl) ?_
    refine' wlk2 AW.out FW.out
    (refine awp_draw (fun KS EG hK hP => ?_); refine draw_rule rfl [(0, true), (1, false), (2, false), (3, false), (4, false), (5, true), (6, true), (7, true), (10, true)] [8] [9] (by kernel_rfl) ?_; refine' dqs3 RL.out QT.out FD.out)
    refine' wlk1 RF.out
    rename_i b3 _ _ _ _ _ _ _ _ _ _ _ _ _ _ _ _ _ _
    by_cases e0 : et.code = 0
    · have IS := Lib.hid (I0.out e0)
      clear I0 I1
      obtain ⟨ec, ea, ep⟩ := et
      simp only at e0
      subst e0
      simp only [ErT.d] at EQ TE
      (refine awp_draw (fun KS EG hK hP => ?_); refine draw_rule rfl [(0, true), (1, false), (2, false), (3, true), (4, true), (5, true), (6, false), (7, true), (8, true), (9, false), (10, false), (11, false), (12, true), (13, true), (14, true), (15, true), (16, true), (17, false), (18, true), (19, true), (20, false), (21, true), (22, false), (23, true), (24, true), (25, true)] [] [] (by kernel_rfl) ?_; repeat (first | ((first | refine dq_pu rfl ?_ | refine dq_rd rfl ?_ | (refine dq_gTp rfl rfl ?_ ?_; (focus (simp [*]; done))) | (refine dq_gTr rfl rfl ?_ ?_; (focus (simp [*]; done)))); constructor; refine And.intro (fun _ _ hO => ?_) ?_; (focus (simp [*]; (try simp (discharger := omega) only [wrap_i64, dec_t, dec_f]); (first | ((try (first | refine .inl ⟨?_, by omega, by omega⟩ | refine ⟨by omega, by omega, ?_⟩ | refine ⟨by omega, ?_⟩ | refine .inl ?_)); exact hO.out _ _ (.refl _) (St.le_refl _)) | ((first | refine Tri.call (TE.out _) ?_ | refine Tri.call (EQ.out) ?_ | refine Tri.call (IS.out _) ?_); rintro _ _ ⟨rfl, h9⟩; replace h9 := h9.symm; subst h9; exact hO.out _ _ (.refl _) (St.le_refl _)) | exact .inr ⟨(TE.out _), hO.out _ _ (.refl _) (St.le_refl _)⟩ | exact .inl ⟨(TE.out _), hO.out _ _ (.refl _) (St.le_refl _)⟩ | exact ⟨_, (TE.out _), hO.out _ _ (.refl _) (St.le_refl _)⟩ | exact .inr ⟨(EQ.out), hO.out _ _ (.refl _) (St.le_refl _)⟩ | exact .inl ⟨(EQ.out), hO.out _ _ (.refl _) (St.le_refl _)⟩ | exact ⟨_, (EQ.out), hO.out _ _ (.refl _) (St.le_refl _)⟩ | exact .inr ⟨(IS.out _), hO.out _ _ (.refl _) (St.le_refl _)⟩ | exact .inl ⟨(IS.out _), hO.out _ _ (.refl _) (St.le_refl _)⟩ | exact ⟨_, (IS.out _), hO.out _ _ (.refl _) (St.le_refl _)⟩))); (first | refine aput_some (by decide) ?_ | refine aput_none ?_)) | ((first | (refine dq_gF rfl rfl ?_ ?_; (focus (simp [*]; done))) | (refine dq_gU rfl rfl ?_ ?_; (focus (simp [*]; done)))); (first | refine aput_some (by decide) ?_ | refine aput_none ?_)) | refine dq_nil ?_ | refine dtail_none ?_ | refine dtail_some ?_ | refine dals_alloc rfl (by decide) (by simp; rfl) ?_ | refine dals_box rfl (by decide) (by simp [*]; rfl) ?_  | (refine dals_arrO rfl (by decide) (by first | rfl | simp) (by simp) (by intro σ'; simp [*]; exact TE.out _ σ') (by first | assumption | simp) ?_) | (refine dals_arrO rfl (by decide) (by first | rfl | simp) (by simp) (by intro σ'; simp [*]; exact EQ.out σ') (by first | assumption | simp) ?_) | (refine dals_arrO rfl (by decide) (by first | rfl | simp) (by simp) (by intro σ'; simp [*]; exact IS.out _ σ') (by first | assumption | simp) ?_) | refine dals_nil ?_ | refine dfin_nil ?_ | (refine dfin_cons rfl ?_; simp only [fresh_set, ne_eq, and_assoc]; intro b8 c8 hf8 hc8; (try subst hc8); (repeat (obtain ⟨_, hf8⟩ := hf8))) | (refine aops_idx rfl (fun K9 hO => ?_); simp [*]; (try simp (discharger := omega) only [wrap_i64, dec_t, dec_f]); (first | ((try (first | refine .inl ⟨by omega, by omega, ?_⟩ | refine ⟨by omega, by omega, ?_⟩ | refine ⟨by omega, ?_⟩ | refine .inl ?_)); (first | (intro b; intros; (try have hneA := ne_own (b := b) hown1 (by assumption)); (try have hneB := ne_own (b := b) hown2 (by assumption)); (try have hneC := ne_own (b := b) hown3 (by assumption)); refine hO.out _ _ ?_) | refine hO.out _ _ ?_)) | ((first | refine Tri.call (TE.out _) ?_ | refine Tri.call (EQ.out) ?_ | refine Tri.call (IS.out _) ?_); (first | rintro _ _ ⟨rfl, h9⟩; replace h9 := h9.symm; subst h9 | rintro _ _ ⟨_, rfl, rfl⟩ | rintro _ _ ⟨_, _, rfl, rfl⟩ | rintro _ _ ⟨_, _, _, rfl, rfl⟩); refine hO.out _ _ ?_)); clear hO; (try clear K9); (first | refine aput_some (by decide) ?_ | refine aput_none ?_)) | refine aops_end ?_ | ((repeat ((fail_if_success (refine hK.out _ _ ?_)); clear hK; (try clear hP EG); (try clear KS))); refine hK.out _ _ ?_; clear hK; (try clear hP EG); try clear KS)))
      refine' wlk0
      refine awp_gen ?_
      intro σ2 hσ2
      have hown1 : σ2.own b3 = some (.box 25 [.s q.term, dq, .i q.limit, .i q.since]) := by
        rw [hσ2]
        simp [*]
      have HLE2 := Lib.hid (show σ.le σ2 by rw [hσ2]; exact leT)
      clear hσ2
      refine awp_loopM [4, 10, 62, 63, 64, 65, 66, 67, 68, 69, 70, 71, 72, 73, 74, 75] (fun X τ => ∃ k : Nat, k ≤ l.length ∧ X 62 = .i k ∧ τ = σ2) (fun X _ => l.length - (X 62).int.toNat) ?_ ?_
      · refine .same ⟨mix_self _ _, 0, by omega, ?_, rfl⟩
        simp [*]
      · rintro X τ ⟨k, hk, h62, rfl⟩ _ hL
        by_cases hlt : k < l.length
        · have F1 := Lib.hid (FT.out k hlt)
          have F2 := Lib.hid (RT.out k hlt)
          obtain ⟨fb, hfb⟩ : ∃ fb, fb = fitsB q l[k] := ⟨_, rfl⟩
          rw [← hfb] at F1 F2
          clear hfb
          refine' wlk0
          (refine awp_draw (fun KS EG hK hP => ?_); refine draw_rule rfl [(0, false), (1, false), (2, false), (3, false), (4, false), (5, false), (6, false), (7, false), (8, true)] [] [] (by kernel_rfl) ?_; repeat (first | ((first | refine dq_pu rfl ?_ | refine dq_rd rfl ?_ | (refine dq_gTp rfl rfl ?_ ?_; (focus (simp [*]; done))) | (refine dq_gTr rfl rfl ?_ ?_; (focus (simp [*]; done)))); constructor; refine And.intro (fun _ _ hO => ?_) ?_; (focus (simp [*]; (try simp (discharger := omega) only [wrap_i64, dec_t, dec_f]); (first | ((try (first | refine .inl ⟨?_, by omega, by omega⟩ | refine ⟨by omega, by omega, ?_⟩ | refine ⟨by omega, ?_⟩ | refine .inl ?_)); exact hO.out _ _ (.refl _) (St.le_refl _)) | ((first | refine Tri.call (QT.out _) ?_ | refine Tri.call (realOneT l[k] _) ?_ | refine Tri.call (F1.out _) ?_ | refine Tri.call (F2.out _) ?_); rintro _ _ ⟨rfl, h9⟩; replace h9 := h9.symm; subst h9; exact hO.out _ _ (.refl _) (St.le_refl _)) | exact .inr ⟨(QT.out _), hO.out _ _ (.refl _) (St.le_refl _)⟩ | exact .inl ⟨(QT.out _), hO.out _ _ (.refl _) (St.le_refl _)⟩ | exact ⟨_, (QT.out _), hO.out _ _ (.refl _) (St.le_refl _)⟩ | exact .inr ⟨(realOneT l[k] _), hO.out _ _ (.refl _) (St.le_refl _)⟩ | exact .inl ⟨(realOneT l[k] _), hO.out _ _ (.refl _) (St.le_refl _)⟩ | exact ⟨_, (realOneT l[k] _), hO.out _ _ (.refl _) (St.le_refl _)⟩ | exact .inr ⟨(F1.out _), hO.out _ _ (.refl _) (St.le_refl _)⟩ | exact .inl ⟨(F1.out _), hO.out _ _ (.refl _) (St.le_refl _)⟩ | exact ⟨_, (F1.out _), hO.out _ _ (.refl _) (St.le_refl _)⟩ | exact .inr ⟨(F2.out _), hO.out _ _ (.refl _) (St.le_refl _)⟩ | exact .inl ⟨(F2.out _), hO.out _ _ (.refl _) (St.le_refl _)⟩ | exact ⟨_, (F2.out _), hO.out _ _ (.refl _) (St.le_refl _)⟩))); (first | refine aput_some (by decide) ?_ | refine aput_none ?_)) | ((first | (refine dq_gF rfl rfl ?_ ?_; (focus (simp [*]; done))) | (refine dq_gU rfl rfl ?_ ?_; (focus (simp [*]; done)))); (first | refine aput_some (by decide) ?_ | refine aput_none ?_)) | refine dq_nil ?_ | refine dtail_none ?_ | refine dtail_some ?_ | refine dals_alloc rfl (by decide) (by simp; rfl) ?_ | refine dals_box rfl (by decide) (by simp [*]; rfl) ?_  | (refine dals_arrO rfl (by decide) (by first | rfl | simp) (by simp) (by intro σ'; simp [*]; exact QT.out _ σ') (by first | assumption | simp) ?_) | (refine dals_arrO rfl (by decide) (by first | rfl | simp) (by simp) (by intro σ'; simp [*]; exact realOneT l[k] _ σ') (by first | assumption | simp) ?_) | (refine dals_arrO rfl (by decide) (by first | rfl | simp) (by simp) (by intro σ'; simp [*]; exact F1.out _ σ') (by first | assumption | simp) ?_) | (refine dals_arrO rfl (by decide) (by first | rfl | simp) (by simp) (by intro σ'; simp [*]; exact F2.out _ σ') (by first | assumption | simp) ?_) | refine dals_nil ?_ | refine dfin_nil ?_ | (refine dfin_cons rfl ?_; simp only [fresh_set, ne_eq, and_assoc]; intro b8 c8 hf8 hc8; (try subst hc8); (repeat (obtain ⟨_, hf8⟩ := hf8))) | (refine aops_idx rfl (fun K9 hO => ?_); simp [*]; (try simp (discharger := omega) only [wrap_i64, dec_t, dec_f]); (first | ((try (first | refine .inl ⟨by omega, by omega, ?_⟩ | refine ⟨by omega, by omega, ?_⟩ | refine ⟨by omega, ?_⟩ | refine .inl ?_)); (first | (intro b; intros; (try have hneA := ne_own (b := b) hown1 (by assumption)); (try have hneB := ne_own (b := b) hown2 (by assumption)); (try have hneC := ne_own (b := b) hown3 (by assumption)); refine hO.out _ _ ?_) | refine hO.out _ _ ?_)) | ((first | refine Tri.call (QT.out _) ?_ | refine Tri.call (realOneT l[k] _) ?_ | refine Tri.call (F1.out _) ?_ | refine Tri.call (F2.out _) ?_); (first | rintro _ _ ⟨rfl, h9⟩; replace h9 := h9.symm; subst h9 | rintro _ _ ⟨_, rfl, rfl⟩ | rintro _ _ ⟨_, _, rfl, rfl⟩ | rintro _ _ ⟨_, _, _, rfl, rfl⟩); refine hO.out _ _ ?_)); clear hO; (try clear K9); (first | refine aput_some (by decide) ?_ | refine aput_none ?_)) | refine aops_end ?_ | ((repeat ((fail_if_success (refine hK.out _ _ ?_)); clear hK; (try clear hP EG); (try clear KS))); refine hK.out _ _ ?_; clear hK; (try clear hP EG); try clear KS)))
          refine' wlk0
          refine hL.out _ _ (.less τ leT (.same ⟨mixT, ⟨k + 1, by omega, ?_, rfl⟩, ?_⟩))
          · simp [*]
          · simp [*, D.int]; omega
        · have hke : k = l.length := by omega
          rw [hke] at h62
          clear hke hlt hk
          refine' wlk0
          ((try simp [*]); (try simp (discharger := omega) only [wrap_i64, dec_t, dec_f]))
          exact .mk _ σ (.refl _) leT ⟨rfl, rfl⟩
    · have IS := Lib.hid (I1.out e0)
      clear I0 I1
      (refine awp_draw (fun KS EG hK hP => ?_); refine draw_rule rfl [(0, true), (1, false), (2, false), (3, true), (4, true), (5, true), (6, false), (7, true), (8, true), (9, false), (10, false), (11, false), (12, true), (13, true), (14, true), (15, true), (16, true), (17, false), (18, true), (19, true), (20, false), (21, true), (22, false), (23, true), (24, true), (25, true)] [] [] (by kernel_rfl) ?_; repeat (first | ((first | refine dq_pu rfl ?_ | refine dq_rd rfl ?_ | (refine dq_gTp rfl rfl ?_ ?_; (focus (simp [*]; done))) | (refine dq_gTr rfl rfl ?_ ?_; (focus (simp [*]; done)))); constructor; refine And.intro (fun _ _ hO => ?_) ?_; (focus (simp [*]; (try simp (discharger := omega) only [wrap_i64, dec_t, dec_f]); (first | ((try (first | refine .inl ⟨?_, by omega, by omega⟩ | refine ⟨by omega, by omega, ?_⟩ | refine ⟨by omega, ?_⟩ | refine .inl ?_)); exact hO.out _ _ (.refl _) (St.le_refl _)) | ((first | refine Tri.call (TE.out _) ?_ | refine Tri.call (EQ.out) ?_ | refine Tri.call (IS.out _) ?_); rintro _ _ ⟨rfl, h9⟩; replace h9 := h9.symm; subst h9; exact hO.out _ _ (.refl _) (St.le_refl _)) | exact .inr ⟨(TE.out _), hO.out _ _ (.refl _) (St.le_refl _)⟩ | exact .inl ⟨(TE.out _), hO.out _ _ (.refl _) (St.le_refl _)⟩ | exact ⟨_, (TE.out _), hO.out _ _ (.refl _) (St.le_refl _)⟩ | exact .inr ⟨(EQ.out), hO.out _ _ (.refl _) (St.le_refl _)⟩ | exact .inl ⟨(EQ.out), hO.out _ _ (.refl _) (St.le_refl _)⟩ | exact ⟨_, (EQ.out), hO.out _ _ (.refl _) (St.le_refl _)⟩ | exact .inr ⟨(IS.out _), hO.out _ _ (.refl _) (St.le_refl _)⟩ | exact .inl ⟨(IS.out _), hO.out _ _ (.refl _) (St.le_refl _)⟩ | exact ⟨_, (IS.out _), hO.out _ _ (.refl _) (St.le_refl _)⟩))); (first | refine aput_some (by decide) ?_ | refine aput_none ?_)) | ((first | (refine dq_gF rfl rfl ?_ ?_; (focus (simp [*]; done))) | (refine dq_gU rfl rfl ?_ ?_; (focus (simp [*]; done)))); (first | refine aput_some (by decide) ?_ | refine aput_none ?_)) | refine dq_nil ?_ | refine dtail_none ?_ | refine dtail_some ?_ | refine dals_alloc rfl (by decide) (by simp; rfl) ?_ | refine dals_box rfl (by decide) (by simp [*]; rfl) ?_  | (refine dals_arrO rfl (by decide) (by first | rfl | simp) (by simp) (by intro σ'; simp [*]; exact TE.out _ σ') (by first | assumption | simp) ?_) | (refine dals_arrO rfl (by decide) (by first | rfl | simp) (by simp) (by intro σ'; simp [*]; exact EQ.out σ') (by first | assumption | simp) ?_) | (refine dals_arrO rfl (by decide) (by first | rfl | simp) (by simp) (by intro σ'; simp [*]; exact IS.out _ σ') (by first | assumption | simp) ?_) | refine dals_nil ?_ | refine dfin_nil ?_ | (refine dfin_cons rfl ?_; simp only [fresh_set, ne_eq, and_assoc]; intro b8 c8 hf8 hc8; (try subst hc8); (repeat (obtain ⟨_, hf8⟩ := hf8))) | (refine aops_idx rfl (fun K9 hO => ?_); simp [*]; (try simp (discharger := omega) only [wrap_i64, dec_t, dec_f]); (first | ((try (first | refine .inl ⟨by omega, by omega, ?_⟩ | refine ⟨by omega, by omega, ?_⟩ | refine ⟨by omega, ?_⟩ | refine .inl ?_)); (first | (intro b; intros; (try have hneA := ne_own (b := b) hown1 (by assumption)); (try have hneB := ne_own (b := b) hown2 (by assumption)); (try have hneC := ne_own (b := b) hown3 (by assumption)); refine hO.out _ _ ?_) | refine hO.out _ _ ?_)) | ((first | refine Tri.call (TE.out _) ?_ | refine Tri.call (EQ.out) ?_ | refine Tri.call (IS.out _) ?_); (first | rintro _ _ ⟨rfl, h9⟩; replace h9 := h9.symm; subst h9 | rintro _ _ ⟨_, rfl, rfl⟩ | rintro _ _ ⟨_, _, rfl, rfl⟩ | rintro _ _ ⟨_, _, _, rfl, rfl⟩); refine hO.out _ _ ?_)); clear hO; (try clear K9); (first | refine aput_some (by decide) ?_ | refine aput_none ?_)) | refine aops_end ?_ | ((repeat ((fail_if_success (refine hK.out _ _ ?_)); clear hK; (try clear hP EG); (try clear KS))); refine hK.out _ _ ?_; clear hK; (try clear hP EG); try clear KS)))
      refine' wlk0
      refine awp_gen ?_
      intro σ2 hσ2
      have hown1 : σ2.own b3 = some (.box 25 [.s q.term, dq, .i q.limit, .i q.since]) := by
        rw [hσ2]
        simp [*]
      have HLE2 := Lib.hid (show σ.le σ2 by rw [hσ2]; exact leT)
      clear hσ2
      refine awp_loopM [4, 10, 62, 63, 64, 65, 66, 67, 68, 69, 70, 71, 72, 73, 74, 75] (fun X τ => ∃ k : Nat, k ≤ l.length ∧ X 62 = .i k ∧ τ = σ2) (fun X _ => l.length - (X 62).int.toNat) ?_ ?_
      · refine .same ⟨mix_self _ _, 0, by omega, ?_, rfl⟩
        simp [*]
      · rintro X τ ⟨k, hk, h62, rfl⟩ _ hL
        by_cases hlt : k < l.length
        · have F1 := Lib.hid (FT.out k hlt)
          have F2 := Lib.hid (RT.out k hlt)
          obtain ⟨fb, hfb⟩ : ∃ fb, fb = fitsB q l[k] := ⟨_, rfl⟩
          rw [← hfb] at F1 F2
          clear hfb
          refine' wlk0
          (refine awp_draw (fun KS EG hK hP => ?_); refine draw_rule rfl [(0, false), (1, false), (2, false), (3, false), (4, false), (5, false), (6, false), (7, false), (8, true)] [] [] (by kernel_rfl) ?_; repeat (first | ((first | refine dq_pu rfl ?_ | refine dq_rd rfl ?_ | (refine dq_gTp rfl rfl ?_ ?_; (focus (simp [*]; done))) | (refine dq_gTr rfl rfl ?_ ?_; (focus (simp [*]; done)))); constructor; refine And.intro (fun _ _ hO => ?_) ?_; (focus (simp [*]; (try simp (discharger := omega) only [wrap_i64, dec_t, dec_f]); (first | ((try (first | refine .inl ⟨?_, by omega, by omega⟩ | refine ⟨by omega, by omega, ?_⟩ | refine ⟨by omega, ?_⟩ | refine .inl ?_)); exact hO.out _ _ (.refl _) (St.le_refl _)) | ((first | refine Tri.call (QT.out _) ?_ | refine Tri.call (realOneT l[k] _) ?_ | refine Tri.call (F1.out _) ?_ | refine Tri.call (F2.out _) ?_); rintro _ _ ⟨rfl, h9⟩; replace h9 := h9.symm; subst h9; exact hO.out _ _ (.refl _) (St.le_refl _)) | exact .inr ⟨(QT.out _), hO.out _ _ (.refl _) (St.le_refl _)⟩ | exact .inl ⟨(QT.out _), hO.out _ _ (.refl _) (St.le_refl _)⟩ | exact ⟨_, (QT.out _), hO.out _ _ (.refl _) (St.le_refl _)⟩ | exact .inr ⟨(realOneT l[k] _), hO.out _ _ (.refl _) (St.le_refl _)⟩ | exact .inl ⟨(realOneT l[k] _), hO.out _ _ (.refl _) (St.le_refl _)⟩ | exact ⟨_, (realOneT l[k] _), hO.out _ _ (.refl _) (St.le_refl _)⟩ | exact .inr ⟨(F1.out _), hO.out _ _ (.refl _) (St.le_refl _)⟩ | exact .inl ⟨(F1.out _), hO.out _ _ (.refl _) (St.le_refl _)⟩ | exact ⟨_, (F1.out _), hO.out _ _ (.refl _) (St.le_refl _)⟩ | exact .inr ⟨(F2.out _), hO.out _ _ (.refl _) (St.le_refl _)⟩ | exact .inl ⟨(F2.out _), hO.out _ _ (.refl _) (St.le_refl _)⟩ | exact ⟨_, (F2.out _), hO.out _ _ (.refl _) (St.le_refl _)⟩))); (first | refine aput_some (by decide) ?_ | refine aput_none ?_)) | ((first | (refine dq_gF rfl rfl ?_ ?_; (focus (simp [*]; done))) | (refine dq_gU rfl rfl ?_ ?_; (focus (simp [*]; done)))); (first | refine aput_some (by decide) ?_ | refine aput_none ?_)) | refine dq_nil ?_ | refine dtail_none ?_ | refine dtail_some ?_ | refine dals_alloc rfl (by decide) (by simp; rfl) ?_ | refine dals_box rfl (by decide) (by simp [*]; rfl) ?_  | (refine dals_arrO rfl (by decide) (by first | rfl | simp) (by simp) (by intro σ'; simp [*]; exact QT.out _ σ') (by first | assumption | simp) ?_) | (refine dals_arrO rfl (by decide) (by first | rfl | simp) (by simp) (by intro σ'; simp [*]; exact realOneT l[k] _ σ') (by first | assumption | simp) ?_) | (refine dals_arrO rfl (by decide) (by first | rfl | simp) (by simp) (by intro σ'; simp [*]; exact F1.out _ σ') (by first | assumption | simp) ?_) | (refine dals_arrO rfl (by decide) (by first | rfl | simp) (by simp) (by intro σ'; simp [*]; exact F2.out _ σ') (by first | assumption | simp) ?_) | refine dals_nil ?_ | refine dfin_nil ?_ | (refine dfin_cons rfl ?_; simp only [fresh_set, ne_eq, and_assoc]; intro b8 c8 hf8 hc8; (try subst hc8); (repeat (obtain ⟨_, hf8⟩ := hf8))) | (refine aops_idx rfl (fun K9 hO => ?_); simp [*]; (try simp (discharger := omega) only [wrap_i64, dec_t, dec_f]); (first | ((try (first | refine .inl ⟨by omega, by omega, ?_⟩ | refine ⟨by omega, by omega, ?_⟩ | refine ⟨by omega, ?_⟩ | refine .inl ?_)); (first | (intro b; intros; (try have hneA := ne_own (b := b) hown1 (by assumption)); (try have hneB := ne_own (b := b) hown2 (by assumption)); (try have hneC := ne_own (b := b) hown3 (by assumption)); refine hO.out _ _ ?_) | refine hO.out _ _ ?_)) | ((first | refine Tri.call (QT.out _) ?_ | refine Tri.call (realOneT l[k] _) ?_ | refine Tri.call (F1.out _) ?_ | refine Tri.call (F2.out _) ?_); (first | rintro _ _ ⟨rfl, h9⟩; replace h9 := h9.symm; subst h9 | rintro _ _ ⟨_, rfl, rfl⟩ | rintro _ _ ⟨_, _, rfl, rfl⟩ | rintro _ _ ⟨_, _, _, rfl, rfl⟩); refine hO.out _ _ ?_)); clear hO; (try clear K9); (first | refine aput_some (by decide) ?_ | refine aput_none ?_)) | refine aops_end ?_ | ((repeat ((fail_if_success (refine hK.out _ _ ?_)); clear hK; (try clear hP EG); (try clear KS))); refine hK.out _ _ ?_; clear hK; (try clear hP EG); try clear KS)))
          refine' wlk0
          refine hL.out _ _ (.less τ leT (.same ⟨mixT, ⟨k + 1, by omega, ?_, rfl⟩, ?_⟩))
          · simp [*]
          · simp [*, D.int]; omega
        · have hke : k = l.length := by omega
          rw [hke] at h62
          clear hke hlt hk
          refine' wlk0
          ((try simp [*]); (try simp (discharger := omega) only [wrap_i64, dec_t, dec_f]))
          exact .mk _ σ (.refl _) leT ⟨rfl, rfl⟩
end Go.Proofs.YtmpbofmhjjgccaaDoor
/-
  What the rows' variables hold, as a walk wants it; a world that meets the condition.
-/
namespace Go.Proofs.YtmpbofmhjjgccaaDoor
open Go.RowKit
set_option maxRecDepth 100000
set_option linter.unusedVariables false
set_option linter.unusedSimpArgs false

theorem lay_et : Tryd.prog.globalNamed "errors.errorType" = some 0 := by kernel_rfl
theorem lay_rt : (Tryd.prog.cutTypes.find? (·.1 == "internal/reflectlite.rtype")).map (·.2) = some 89 := by kernel_rfl
theorem lay_one : ((List.range (248 - 100)).filter fun t => Tryd.prog.rowNamed t [101, 114, 114, 111, 114]) = [32] := by kernel_rfl
theorem lay_size : Tryd.prog.types.size = 248 - 100 := by kernel_rfl
theorem errT_of {W : World} (h : handlesMet Tryd.prog [("errors.errorType", Rows.laid_errors_errorType)] W) : ErrT W := by
  obtain ⟨name, u, ty, e1, e2, e3, e4, e5⟩ := h _ (List.mem_singleton.2 rfl)
  have en : name = [101, 114, 114, 111, 114] := (Option.some.inj e1).symm
  subst en
  obtain rfl := Option.some.inj (lay_rt.symm.trans e2)
  have hm : ty ∈ (List.range (248 - 100)).filter fun t => Tryd.prog.rowNamed t [101, 114, 114, 111, 114] := List.mem_filter.2 ⟨List.mem_range.2 (by rw [← lay_size]; exact e3), e4⟩
  rw [lay_one] at hm
  obtain rfl := List.mem_singleton.1 hm
  have hh : typeHandle Tryd.prog 32 = .pointer (some ⟨2, 32, none⟩) := by kernel_rfl
  rw [hh] at e5
  have := World.var?_cell lay_et e5 0
  simpa [ErrT] using this
/-- The plain tables among them. -/
def plainLaid : List (String × DataW Unit) := Rows.searchFindsRow.laid.filter fun x => x.2.handleName?.isNone
theorem maxLen_of {W : World} (h : W.ShapedOpen Tryd.prog) : SomeNum W 1 :=
  Go.Proofs.cell_of_shapedOpen_int (zero := #[.int .i64 0]) (t := 3) h (of_decide_eq_true (by kernel_rfl)) (by kernel_rfl) rfl (by kernel_rfl) (by kernel_rfl) Tryd.underlying3
theorem baseOk_of {W : World} (hsh : W.ShapedOpen Tryd.prog) (h : laidMetH Tryd.prog Rows.searchFindsRow.laid W) : BaseOk W := by
  have h' : laidMet Tryd.prog plainLaid W ∧ handlesMet Tryd.prog [("errors.errorType", Rows.laid_errors_errorType)] W := h
  exact ⟨maxLen_of hsh, errT_of h'.2, trivial⟩
/-- A world that meets the condition. -/
noncomputable def laidWorld (os : Os) : World :=
  { World.laidAll Tryd.prog os plainLaid with heap := (World.laidAll Tryd.prog os plainLaid).heap.modify 0 fun
      | .cells _ t frozen => .cells #[.iface 89 (.agg #[.pointer (some ⟨2, 32, none⟩)])] t frozen
      | o => o }
theorem laid_met (os : Os) (args : Array Value) : laidMetH Tryd.prog Rows.searchFindsRow.laid ((laidWorld os).forCall (fun _ _ => 0) ⟨#[], args, []⟩).memory :=
  laidMetH_of_parts (laidMet_of_run' 8 (by kernel_rfl) (by kernel_rfl)) (by kernel_rfl)
end Go.Proofs.YtmpbofmhjjgccaaDoor
/-
  Arguments that are summaries, a question.
-/
namespace Go.Proofs.YtmpbofmhjjgccaaDoor
open Go.RowKit
set_option maxRecDepth 100000
set_option linter.unusedVariables false
set_option linter.unusedSimpArgs false

theorem below_sameAt {w w' : World} (h : Below w.heap.size w w') {p : MemPlace} (hp : p.block < w.heap.size) : w.sameAt w' p := by
  cases p with
  | cell b off => exact h.cell (p := ⟨b, off, none⟩) hp
  | map b => simp only [World.sameAt, h.block b hp]
theorem argQ {H : Type} {enc : TypeId × Value → H} {W : World} {base : Nat} {v0 : Value} {d0 : DataW H} {p0 : List MemPlace}
    (hval : Value.okWide Tryd.prog W .any base 25 v0) (h0 : DataW.Trod enc Tryd.prog W 0 (fun _ => true) true 25 v0 d0 p0) (hr : Reached Tryd.prog 25 d0) :
    ∃ a : QV, (a.types.length * 16 ≤ 140737488351232 ∧ a.since ≤ 9223372036854775807) ∧ Rep (Gh.of W) v0 (.agg (QVd a)) := by
  obtain ⟨n, hn⟩ := h0
  obtain ⟨a, h1, h2, h3⟩ := rdQ n enc W 0 _ true n _ _ (Nat.le_refl _) hn
  unfold Value.okWide at hval
  simp only [Tryd.underlying25] at hval
  obtain ⟨cs, rfl, _⟩ := hval
  have h1' : RepL (Gh.of W) cs.toList (QVd a) := h1
  exact ⟨a, h3 hr, .agg _ _ h1'.len h2 h1'.rep⟩
theorem cells_one {P : Program} {w : World} {r : Reach} {base : Nat} {t e : TypeId} {v : Value} (ht : P.underlying t = some (.slice e)) (h : Value.okWide P w r base t v) : v.cells.toList = [v] := by
  unfold Value.okWide at h
  cases v with
  | agg cs => simp [ht, Cell.okWide, Cell.ok] at h
  | _ => rfl
theorem argSs {H : Type} {enc : TypeId × Value → H} {W : World} {base : Nat} {v0 : Value} {d0 : DataW H} {p0 : List MemPlace}
    (hval : Value.okWide Tryd.prog W .any base 22 v0) (h0 : DataW.Trod enc Tryd.prog W 0 (fun _ => true) true 22 v0 d0 p0) (hr : Reached Tryd.prog 22 d0) :
    ∃ l : List SV, (l.length * 128 ≤ 140737488351232 ∧ ∀ x ∈ l, x.name.size ≤ 140737488351232 ∧ x.topic.size ≤ 140737488351232 ∧ x.alias.size ≤ 140737488351232) ∧ Rep (Gh.of W) v0 (SVsD l) := by
  obtain ⟨n, hn⟩ := h0
  obtain ⟨a, h1, h2, h3⟩ := Rd.slice (by_ := 128) (sz := 10) Tryd.underlying22 (by kernel_rfl) (by kernel_rfl) (by decide) (fun _ => rfl) (rdS n) enc W 0 _ true n _ _ (by omega) hn
  rw [cells_one Tryd.underlying22 hval] at h1
  exact ⟨a, h3 hr, h1.rep 0 _ _ rfl rfl⟩
theorem searchFindsC (l : List SV) (q : QV) (h0 : l.length * 128 ≤ 140737488351232 ∧ ∀ x ∈ l, x.name.size ≤ 140737488351232 ∧ x.topic.size ≤ 140737488351232 ∧ x.alias.size ≤ 140737488351232)
    (h1 : q.types.length * 16 ≤ 140737488351232 ∧ q.since ≤ 9223372036854775807) (σ : St) : Tri Tryd.prog 3 [SVsD l, .agg (QVd q)] σ fun d τ => d = .b true ∧ τ = σ :=
  searchFindsT l q (by omega) h0.2 (by omega) h1.2 σ
end Go.Proofs.YtmpbofmhjjgccaaDoor
/-
  The card of the law SearchFinds: it holds for every input.
-/
namespace Go.Proofs.YtmpbofmhjjgccaaDoor.searchFinds
open Go.ChangeShapes Go.WideShapes Go.ChangeAt Go.RowKit
set_option maxRecDepth 100000
set_option linter.unusedVariables false
set_option linter.unusedSimpArgs false

theorem laid_eq : Rows.searchFindsRow.laid = Rows.searchFindsRow.laid := rfl
theorem reads (os : Os) {H : Type} (enc : TypeId × Value → H) : ∃ places, DataW.whole enc Tryd.prog ((laidWorld os).forCall (fun _ _ => 0) ⟨#[], #[.slice none 0 0, .agg #[.string ByteArray.empty, .slice none 0 0, .int .i64 0, .int .i64 0]], []⟩).memory Tryd.f3.params.toList Rows.searchFindsSpec.vars false #[.slice none 0 0, .agg #[.string ByteArray.empty, .slice none 0 0, .int .i64 0, .int .i64 0]].toList 8 = some ([.nil, .agg [.lit (.string []), .nil, .lit (.int .i64 0), .lit (.int .i64 0)]], [], places) :=
  ⟨[], by kernel_rfl⟩
theorem contract (H : Type) (enc : TypeId × Value → H) (W : World) (base : Nat) (args : Array Value) (ds gs : List (DataW H)) (before : List MemPlace)
    (hval0 : ∀ (j : Nat) t v, Tryd.f3.params[j]? = some t → args[j]? = some v → Value.okWide Tryd.prog W .any base t v)
    (hW : DataW.Whole enc Tryd.prog Tryd.f3.params.toList Rows.searchFindsSpec.vars false W args.toList ds gs before)
    (hreach : (DataW.weightsEach Tryd.prog (Tryd.f3.params.toList ++ (OpenSpec.ofChange Rows.searchFindsSpec).bare.plain.varTypes Tryd.prog) (ds ++ gs)).all (· ≤ reachBytes) = true)
    (hLM : laidMetH Tryd.prog Rows.searchFindsRow.laid W) (hsh : W.ShapedOpen Tryd.prog) :
    Calls Tryd.prog 3 args W fun e W' => ∃ v, e = .returned v ∧ Rows.searchFindsSpec.post enc Tryd.prog Tryd.f3 false true false false W args v W' := by
  have hval : ∀ (j : Nat) t v, Tryd.f3.params[j]? = some t → args[j]? = some v → Value.okWide Tryd.prog W .any base t v := hval0
  have hW' := hW
  have hlt := hW.lt
  obtain ⟨p, q, hA0, hV, rfl, hfz, hnd⟩ := hW
  have hA : DataW.TrodAll enc Tryd.prog W 0 (fun _ => true) true Tryd.f3.params.toList args.toList ds p := hA0
  rw [Tryd.params3] at hA hval
  obtain ⟨v0, vs0, d0, ds0, p0, q0, hargs, rfl, rfl, h0, r0⟩ := trodAll_cons hA
  obtain ⟨v1, vs1, d1, ds1, p1, q1, rfl, rfl, rfl, h1, r1⟩ := trodAll_cons r0
  obtain ⟨rfl, rfl, rfl⟩ := trodAll_nil r1
  obtain rfl : args = #[v0, v1] := by cases args; simp_all
  obtain ⟨rfl, rfl⟩ := trodVars_none hV
  obtain ⟨a0, o0, R0⟩ := argSs (hval 0 22 v0 rfl rfl) h0 (reached_arg hreach (j := 0) rfl rfl)
  obtain ⟨a1, o1, R1⟩ := argQ (hval 1 25 v1 rfl rfl) h1 (reached_arg hreach (j := 1) rfl rfl)
  have C := searchFindsC a0 a1 o0 o1 .none W W (Gh.of W) _ (Sim.start W (baseOk_of hsh hLM)) (((RepL.nil _).cons R1).cons R0)
  clear hA0 hval0
  refine C.mono fun e W' ⟨σ', G', _, hS, h4⟩ => ?_
  obtain ⟨v, d, he, hr, hd, _⟩ | ⟨_, _, hd⟩ := h4
  case inr => exact hd.elim
  subst hd
  obtain rfl : v = .bool true := hr.v_inv
  subst he
  have hg : Below W.heap.size W W' := hS.below
  have hin0 : ∀ p ∈ p0, p.block < W.heap.size := fun p hp => hlt p (by simp [hp])
  have hin1 : ∀ p ∈ p1, p.block < W.heap.size := fun p hp => hlt p (by simp [hp])
  exact ⟨_, rfl, post_of_below (pv := []) hW' (fun _ _ _ => (trodAll_cons_mk (shut_bool Tryd.underlying4 _) trodAll_mk0))
    (fun sp hsp => (trodAll_cons_mk (WideElems.Trod_stays laidOut (by kernel_rfl) (of_decide_eq_true (by kernel_rfl)) h0 (fun p hp => below_sameAt hg (hin0 p hp)) (fun p hp => hsp p (by simp [hp]))) (trodAll_cons_mk (WideElems.Trod_stays laidOut (by kernel_rfl) (of_decide_eq_true (by kernel_rfl)) h1 (fun p hp => below_sameAt hg (hin1 p hp)) (fun p hp => hsp p (by simp [hp]))) trodAll_mk0))) (fun _ _ => rfl) rfl
    hg (ok_one (by kernel_rfl) rfl (okWide_bool_mk Tryd.underlying4 _))⟩

theorem lifted (os : Os) (started : os.Started) (H : Type) (enc : TypeId × Value → H) (F : Stop.Interp) :
    ReturnsInHanded {} Tryd.checked os 3 .any ((OpenSpec.ofChange Rows.searchFindsSpec).preRow enc Tryd.prog Tryd.f3 Rows.searchFindsRow.domain false Rows.searchFindsRow.laid) (((OpenSpec.ofChange Rows.searchFindsSpec).at F).post enc Tryd.prog Tryd.f3 false true false false) := by
  obtain ⟨places, hx⟩ := reads os enc
  refine returnsInHanded_of_row (C := Tryd.checked) (s := OpenSpec.ofChange Rows.searchFindsSpec) own started (by kernel_rfl) Tryd.func3
    (witness_row_at (enc := enc) (C := Tryd.checked) false (laidWorld os) #[.slice none 0 0, .agg #[.string ByteArray.empty, .slice none 0 0, .int .i64 0, .int .i64 0]] rfl (by kernel_rfl) (by kernel_rfl) (by kernel_rfl)
      (OpenSpec.preRow_of_cond 8 hx (by kernel_rfl) (fun k hk => by cases hk) (by kernel_rfl) (laid_met os _))) ?_
  intro W base args ds gs before hval hW _ _ hreach hL hsh _
  exact contract H enc W base args ds gs before hval hW hreach hL hsh

theorem said : Rows.SearchFindsSaid :=
  OpenClaim.holds_of_cond 3 Tryd.f3 rfl rfl rfl rfl rfl rfl rfl ⟨rfl, rfl, rfl, rfl, rfl⟩ rfl rfl rfl rfl rfl (by kernel_rfl) Tryd.func3 (by kernel_rfl)
    (of_decide_eq_true (by kernel_rfl)) (by unfold Func.isWrapper; first | (rw [if_pos (by decide +kernel)]; kernel_rfl) | (rw [if_neg (by decide +kernel)]; exact ⟨rfl, rfl⟩))
    (fun os started H enc _ F => by rw [OpenClaim.pre_eq_preRow]; exact lifted os started H enc F)

theorem plain (f : FuncId) (fn : Func) (hf : Tryd.pinned.checked.prog.funcNamed "enfilade/enfiladelaw21.SearchFinds" = some f) (hfn : Tryd.pinned.checked.prog.funcs[f]? = some fn) :
    true = Tryd.pinned.checked.prog.looks [] ∧ ∀ (j : Nat) t, fn.params[j]? = some t → Tryd.pinned.checked.prog.wantsStandIn t = false := by
  obtain rfl : f = 3 := Option.some.inj ((show Tryd.prog.funcNamed "enfilade/enfiladelaw21.SearchFinds" = some 3 by kernel_rfl).symm.trans hf) |>.symm
  obtain rfl : fn = Tryd.f3 := (Option.some.inj (Tryd.func3.symm.trans hfn)).symm
  refine ⟨by kernel_rfl, fun j t ht => ?_⟩
  rw [Tryd.params3] at ht
  have h2 : t = 22 ∨ t = 25 := by simpa using Array.mem_of_getElem? ht
  rcases h2 with rfl | rfl
  · exact (show Tryd.prog.wantsStandIn 22 = false by kernel_rfl)
  · exact (show Tryd.prog.wantsStandIn 25 = false by kernel_rfl)

theorem proved : Rows.SearchFindsCardSaid :=
  Claim7.holds_tied_plain_at .later [] _ _ _ _ said (fun _ h => by cases h) (by kernel_rfl) (fun _ h => by cases h) searchFinds_row_tie rfl ⟨rfl, rfl⟩ (by kernel_rfl) rfl plain (by kernel_rfl)
#print axioms proved
end Go.Proofs.YtmpbofmhjjgccaaDoor.searchFinds
