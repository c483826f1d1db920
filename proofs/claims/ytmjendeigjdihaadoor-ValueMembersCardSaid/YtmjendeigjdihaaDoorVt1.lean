/-
  The card of the law ValueTexts: it holds for every input.
-/
import Derived.Test.YtmjendeigjdihaaDoorVc10
import Derived.Test.YtmjendeigjdihaaDoorVc11
import Derived.Test.YtmjendeigjdihaaDoorCards
import Derived.Test.YtmjendeigjdihaaDoorTie
/-
  Values (chapter 1): value.Texts; the law ValueTexts.
-/
namespace Go.Proofs.YtmjendeigjdihaaDoor
open Go.RowKit
set_option maxRecDepth 100000
set_option linter.unusedVariables false
set_option linter.unusedSimpArgs false
attribute [local irreducible] awp aops aop aput aseq ablock TriX Tri Ret Fresh dq adraw dtail dals dfin Wk

def txV (s : ByteArray) : V := .mk 3 false 0 s [] []
def txD (s : ByteArray) : List D := [.i 3, .b false, .i 0, .s s, .v (.slice none 0 0), .v (.slice none 0 0)]
def tx1 (s : ByteArray) : List D := [.s s]
set_option maxHeartbeats 4000000 in
theorem textsT (l : List ByteArray) (hl : l.length ≤ 50) (σ : St) : Tri Tryd.prog 23 [.lst false 1 (l.map tx1)] σ fun d τ =>
    d = .agg [.i 4, .b false, .i 0, .s ByteArray.empty, .lst false 6 (l.map txD), .v (.slice none 0 0)] ∧ τ = σ := by
  refine tri_fn Tryd.func23 rfl Tryd.ntmps23 Tryd.results23 (Nat.le_of_ble_eq_true rfl) ?_
  refine' wlk0
  refine awp_genI ?_
  intro σ1 hσ1
  have hown1 := own_gen hσ1
  have HLE := Lib.hid (show σ.le σ1 from hσ1 ▸ St.le_set (St.le_refl _) (by assumption))
  have hfr1 : Fresh σ1 b := by
    rw [hσ1]
    simp [*]
  clear hσ1
  obtain ⟨bo, hbo⟩ : ∃ bo, bo = b := ⟨_, rfl⟩
  subst hbo
  refine awp_loopM [5, 9, 10, 11, 12, 13, 14, 15, 16, 17, 18, 19, 20] (fun X τ => ∃ (k : Nat) (dl : D) (τ0 : St), k ≤ l.length ∧ X 9 = .i k ∧ Grow σ1 bo 38 6 ((l.map txD).take k) dl τ0 ∧ τ = τ0.set bo (some (.box 38 [.i 4, .b false, .i 0, .s ByteArray.empty, dl, .v (.slice none 0 0)]))) (fun X _ => l.length - (X 9).int.toNat) ?_ ?_
  · refine .same ⟨mix_self _ _, 0, _, _, by omega, ?_, Grow.start _ _ _ _, rfl⟩
    simp [*]
  · rintro X τ ⟨k, dl, τ0, hk, h9, hg, rfl⟩ _ hL
    by_cases hlt : k < l.length
    · rcases hg.cases_take hlt with ⟨rfl, rfl, rfl⟩ | ⟨bt, cap, g1, g3, g4, g2, rfl, rfl⟩
      · refine' wlk0
        refine hL.out _ _ (.less ((τ0.set b (some (.tip 38 6 _ 1))).set bo _) leT (.same ⟨mixT, ⟨1, _, _, by omega, ?_, Grow.take0 hlt b _ (by assumption) (by assumption), rfl⟩, ?_⟩))
        · simp [*]
        · simp [*, D.int]; omega
      · clear hg
        have hmin : min k l.length = k := by omega
        refine' wlk0
        refine hL.out _ _ (.less ((σ1.set b (some (.tip 38 6 _ (k + 1)))).set bo _) leT (.same ⟨mixT, ⟨k + 1, _, _, by omega, ?_, Grow.take hlt b _ (by assumption) (by assumption), rfl⟩, ?_⟩))
        · simp [*]
        · simp [*, D.int]; omega
    · have hke : k = l.length := by omega
      replace hg := hg.done hke
      rw [hke] at h9
      clear hke hk hlt
      have hown1' := hg.le.2 _ _ hown1
      have hfr0 := hg.fresh hfr1
      have HL1 := Lib.hid hg.le
      clear hg hown1
      have HLL := Lib.hid (St.le_trans HLE.out HL1.out.2)
      refine' wlk0
      ((try simp [*]); (try simp (discharger := omega) only [wrap_i64, dec_t, dec_f]))
      exact .mk _ σ (.aggL (.cons (.refl _) (.cons (.refl _) (.cons (.refl _) (.cons (.refl _) (.cons HL1.out.1 (.cons (.refl _) .nil))))))) leT ⟨rfl, rfl⟩
/-- The list of texts, as a value. -/
def txL (l : List ByteArray) : V := .mk 4 false 0 ByteArray.empty (l.map txV) []
theorem chkL_take : ∀ (l : List V) (deep a k : Nat) (h : k < l.length), V.chkL (l.take (k + 1)) deep a =
    if (V.chkL (l.take k) deep a).code = 0 then (if (l[k].chk deep).code = 0 then ErT.none else ErT.in_ (digB (a + k)) (l[k].chk deep)) else V.chkL (l.take k) deep a
  | x :: l, deep, a, 0, h => by
    simp [V.chkL, ErT.none]
  | x :: l, deep, a, k + 1, h => by
    simp only [List.take_succ_cons, V.chkL, List.getElem_cons_succ]
    by_cases hc : (x.chk deep).code = 0
    · simp only [if_pos hc]
      rw [chkL_take l deep (a + 1) k (by simpa using h), show a + 1 + k = a + (k + 1) by omega]
    · simp only [if_neg hc]
      rw [if_neg (by rw [ErT.in_, if_neg hc]; exact hc)]
/-- What is wrong with the first k texts. -/
def txE (l : List ByteArray) (k : Nat) : ErT := V.chkL ((l.map txV).take k) 1 0
theorem txE_zero (l : List ByteArray) : txE l 0 = ErT.none := by simp [txE, V.chkL]
theorem txE_succ (l : List ByteArray) (k : Nat) (h : k < l.length) : txE l (k + 1) =
    if (txE l k).code = 0 then (if utf8B l[k] = true then ErT.none else ErT.in_ (digB k) (ErT.err 5)) else txE l k := by
  rw [txE, chkL_take _ _ _ _ (by simpa using h)]
  have : ((l.map txV)[k]'(by simpa using h)).chk 1 = if utf8B l[k] = true then ErT.none else ErT.err 5 := by
    rw [List.getElem_map, txV, V.chk]
    simp
  rw [this]
  by_cases hu : utf8B l[k] = true
  · simp [hu, txE, ErT.none]
  · simp [hu, txE, ErT.err]
theorem txE_all (l : List ByteArray) : txE l l.length = (txL l).chk 0 := by
  rw [txL, V.chk, txE, List.take_of_length_le (by simp)]
  simp
theorem txE_ok (l : List ByteArray) (k : Nat) (h : (txE l k).code = 0) : txE l k = ErT.none := by
  induction k with
  | zero => exact txE_zero l
  | succ k ih =>
    by_cases hk : k < l.length
    · rw [txE_succ l k hk] at h ⊢
      by_cases hc : (txE l k).code = 0
      · rw [if_pos hc] at h ⊢
        by_cases hu : utf8B l[k] = true
        · rw [if_pos hu]
        · rw [if_neg hu] at h
          simp [ErT.in_, ErT.err] at h
      · rw [if_neg hc] at h
        exact absurd h hc
    · have e : (l.map txV).take (k + 1) = (l.map txV).take k := by
        rw [List.take_of_length_le (by simp; omega), List.take_of_length_le (by simp; omega)]
      rw [txE, e] at h ⊢
      exact ih h
theorem tx_le (l : List ByteArray) : LeGL [.agg [.i 4, .b false, .i 0, .s ByteArray.empty, .lst false 6 (l.map txD), .v (.slice none 0 0)]] [.agg (txL l).d] := by
  refine .cons (.agg (.cons (.refl _) (.cons (.refl _) (.cons (.refl _) (.cons (.refl _) (.cons ?_ (.cons (nilLe 7) .nil))))))) .nil
  rw [V.ds_map]
  refine .lst ?_
  induction l with
  | nil => exact .nil
  | cons s l ih => exact .cons (v_nils 3 false 0 s) ih
theorem tx_ok (l : List ByteArray) (hl : l.length ≤ 50) (hs : ∀ s ∈ l, s.size ≤ 140737488351232) : (txL l).ok := by
  refine ⟨by decide, by simp; omega, by simp, ?_, trivial⟩
  clear hl
  induction l with
  | nil => exact trivial
  | cons s l ih => exact ⟨⟨hs s List.mem_cons_self, by simp, by simp, trivial, trivial⟩, ih fun x hx => hs x (List.mem_cons_of_mem _ hx)⟩
attribute [local simp] ErT.d
set_option maxHeartbeats 8000000 in
theorem valueTextsT (l : List ByteArray) (ho : l.length * 16 ≤ 140737488351232 ∧ ∀ s ∈ l, s.size ≤ 140737488351232) (σ : St) : Tri Tryd.prog 6 [.lst false 1 (l.map tx1)] σ fun d τ => d = .b true ∧ τ = σ := by
  obtain ⟨hlen, hs⟩ := ho
  have AW := Lib.hid awakeT
  refine tri_fn Tryd.func6 rfl Tryd.ntmps6 Tryd.results6 (Nat.le_of_ble_eq_true rfl) ?_
  by_cases h50 : l.length ≤ 50
  · have TX := Lib.hid (textsT l h50)
    have CP := Lib.hid (fun σ => (checkPT (txL l) σ (tx_ok l h50 hs)).argsG (tx_le l))
    have TL := Lib.hid (fun σ => tellOT ((txL l).chkP 0) σ (told_size _ (tx_ok l h50 hs)))
    rw [((txL l).told_chk 0).1, ← txE_all] at TL
    have EQ := Lib.hid (eqE_t (txE l l.length))
    replace hs := Lib.hid hs
    refine' wlk3 AW.out TX.out noneT
    refine awp_genI ?_
    intro σ1 hσ1
    have hown1 := own_gen hσ1
    have HLE := Lib.hid (show σ.le σ1 from hσ1 ▸ St.le_set (St.le_refl _) (by assumption))
    have hfr1 : Fresh σ1 b := by
      rw [hσ1]
      simp [*]
    clear hσ1
    obtain ⟨bo, hbo⟩ : ∃ bo, bo = b := ⟨_, rfl⟩
    subst hbo
    refine awp_loopM [2, 5, 6, 31, 32, 33, 34, 35, 36, 37, 38, 39, 40, 41, 42, 43, 44, 45, 46, 47, 48, 49, 50, 51, 52, 53, 54, 55, 56, 57, 58, 59, 60, 61, 62, 63, 64, 65, 66, 67, 68] (fun X τ => ∃ k : Nat, k ≤ l.length ∧ X 31 = .i k ∧ τ = σ1.set bo (some (.box 29 (txE l k).d))) (fun X _ => l.length - (X 31).int.toNat) ?_ ?_
    · refine .same ⟨mix_self _ _, 0, by omega, ?_, ?_⟩
      · simp [*]
      · rw [txE_zero]
        simp [*]
    · rintro X τ ⟨k, hk, h31, rfl⟩ _ hL
      by_cases hlt : k < l.length
      · have hsz := hs.out l[k] (List.getElem_mem hlt)
        have UT := Lib.hid (utf8T l[k] (by omega))
        by_cases h200 : 200 < l[k].size
        · refine' wlk0
          ((try simp [*]); (try simp (discharger := omega) only [wrap_i64, dec_t, dec_f]))
          exact .mk _ σ (.refl _) leT ⟨rfl, rfl⟩
        · by_cases hc : (txE l k).code = 0
          · cases hu : utf8B l[k] with
            | true =>
              rw [hu] at UT
              refine' wlk1 UT.out
              refine hL.out _ _ (.same ⟨mixT, ⟨k + 1, by omega, ?_, ?_⟩, ?_⟩)
              · simp [*]
              · rw [txE_succ l k hlt, if_pos hc, if_pos hu, txE_ok l k hc]
                rfl
              · simp [*, D.int]; omega
            | false =>
              rw [hu] at UT
              have DG := Lib.hid (digitsT k (by omega))
              have hdg := digB_size k (by omega)
              have IN := Lib.hid (inT (digB k) (ErT.err 5) · (by simp [ErT.err]; omega))
              refine' wlk5 UT.out DG.out (errT 5) IN.out IN.out
              refine hL.out _ _ (.same ⟨mixT, ⟨k + 1, by omega, ?_, ?_⟩, ?_⟩)
              · simp [*]
              · rw [txE_succ l k hlt, if_pos hc, if_neg (by simp [hu])]
                rfl
              · simp [*, D.int]; omega
          · refine' wlk0
            refine hL.out _ _ (.same ⟨mixT, ⟨k + 1, by omega, ?_, ?_⟩, ?_⟩)
            · simp [*]
            · rw [txE_succ l k hlt, if_neg hc]
              rfl
            · simp [*, D.int]; omega
      · have hke : k = l.length := by omega
        subst hke
        refine' wlk0
        (refine awp_draw (fun KS EG hK hP => ?_); refine draw_rule rfl [(0, false), (1, false), (2, false), (3, false), (4, true), (5, true)] [] [] (by kernel_rfl) ?_; repeat (first | ((first | refine dq_pu rfl ?_ | refine dq_rd rfl ?_ | (refine dq_gTp rfl rfl ?_ ?_; (focus (simp [*]; done))) | (refine dq_gTr rfl rfl ?_ ?_; (focus (simp [*]; done)))); constructor; refine And.intro (fun _ _ hO => ?_) ?_; (focus (simp [*]; (try simp (discharger := omega) only [wrap_i64, dec_t, dec_f]); (first | ((try (first | refine .inl ⟨?_, by omega, by omega⟩ | refine ⟨by omega, by omega, ?_⟩ | refine ⟨by omega, ?_⟩ | refine .inl ?_)); exact hO.out _ _ (.refl _) (St.le_refl _)) | ((first | refine Tri.call (CP.out _) ?_ | refine Tri.call (TL.out _) ?_ | refine Tri.call (EQ.out) ?_); rintro _ _ ⟨rfl, h9⟩; replace h9 := h9.symm; subst h9; exact hO.out _ _ (.refl _) (St.le_refl _)) | exact .inr ⟨(CP.out _), hO.out _ _ (.refl _) (St.le_refl _)⟩ | exact .inl ⟨(CP.out _), hO.out _ _ (.refl _) (St.le_refl _)⟩ | exact ⟨_, (CP.out _), hO.out _ _ (.refl _) (St.le_refl _)⟩ | exact .inr ⟨(TL.out _), hO.out _ _ (.refl _) (St.le_refl _)⟩ | exact .inl ⟨(TL.out _), hO.out _ _ (.refl _) (St.le_refl _)⟩ | exact ⟨_, (TL.out _), hO.out _ _ (.refl _) (St.le_refl _)⟩ | exact .inr ⟨(EQ.out), hO.out _ _ (.refl _) (St.le_refl _)⟩ | exact .inl ⟨(EQ.out), hO.out _ _ (.refl _) (St.le_refl _)⟩ | exact ⟨_, (EQ.out), hO.out _ _ (.refl _) (St.le_refl _)⟩))); (first | refine aput_some (by decide) ?_ | refine aput_none ?_)) | ((first | (refine dq_gF rfl rfl ?_ ?_; (focus (simp [*]; done))) | (refine dq_gU rfl rfl ?_ ?_; (focus (simp [*]; done)))); (first | refine aput_some (by decide) ?_ | refine aput_none ?_)) | refine dq_nil ?_ | refine dtail_none ?_ | refine dtail_some ?_ | refine dals_alloc rfl (by decide) (by simp; rfl) ?_ | refine dals_box rfl (by decide) (by simp [*]; rfl) ?_  | (refine dals_arrO rfl (by decide) (by first | rfl | simp) (by simp) (by intro σ'; simp [*]; exact CP.out _ σ') (by first | assumption | simp) ?_) | (refine dals_arrO rfl (by decide) (by first | rfl | simp) (by simp) (by intro σ'; simp [*]; exact TL.out _ σ') (by first | assumption | simp) ?_) | (refine dals_arrO rfl (by decide) (by first | rfl | simp) (by simp) (by intro σ'; simp [*]; exact EQ.out σ') (by first | assumption | simp) ?_) | refine dals_nil ?_ | refine dfin_nil ?_ | (refine dfin_cons rfl ?_; simp only [fresh_set, ne_eq, and_assoc]; intro b8 c8 hf8 hc8; (try subst hc8); (repeat (obtain ⟨_, hf8⟩ := hf8))) | (refine aops_idx rfl (fun K9 hO => ?_); simp [*]; (try simp (discharger := omega) only [wrap_i64, dec_t, dec_f]); (first | ((try (first | refine .inl ⟨by omega, by omega, ?_⟩ | refine ⟨by omega, by omega, ?_⟩ | refine ⟨by omega, ?_⟩ | refine .inl ?_)); (first | (intro b; intros; (try have hneA := ne_own (b := b) hown1 (by assumption)); (try have hneB := ne_own (b := b) hown2 (by assumption)); (try have hneC := ne_own (b := b) hown3 (by assumption)); refine hO.out _ _ ?_) | refine hO.out _ _ ?_)) | ((first | refine Tri.call (CP.out _) ?_ | refine Tri.call (TL.out _) ?_ | refine Tri.call (EQ.out) ?_); (first | rintro _ _ ⟨rfl, h9⟩; replace h9 := h9.symm; subst h9 | rintro _ _ ⟨_, rfl, rfl⟩ | rintro _ _ ⟨_, _, rfl, rfl⟩ | rintro _ _ ⟨_, _, _, rfl, rfl⟩); refine hO.out _ _ ?_)); clear hO; (try clear K9); (first | refine aput_some (by decide) ?_ | refine aput_none ?_)) | refine aops_end ?_ | ((repeat ((fail_if_success (refine hK.out _ _ ?_)); clear hK; (try clear hP EG); (try clear KS))); refine hK.out _ _ ?_; clear hK; (try clear hP EG); try clear KS)))
        refine' wlk0
        ((try simp [*]); (try simp (discharger := omega) only [wrap_i64, dec_t, dec_f]))
        exact .mk _ σ (.refl _) leT ⟨rfl, rfl⟩
  · refine' wlk1 AW.out
    ((try simp [*]); (try simp (discharger := omega) only [wrap_i64, dec_t, dec_f]))
    exact .mk _ σ (.refl _) leT ⟨rfl, rfl⟩
end Go.Proofs.YtmjendeigjdihaaDoor
/-
  Arguments that are texts, lists of texts, lists of members (chapter 1).
-/
namespace Go.Proofs.YtmjendeigjdihaaDoor
open Go.RowKit
set_option maxRecDepth 100000
set_option linter.unusedVariables false
set_option linter.unusedSimpArgs false

theorem cells_one {P : Program} {w : World} {r : Reach} {base : Nat} {t e : TypeId} {v : Value} (ht : P.underlying t = some (.slice e) ∨ P.underlying t = some .string) (h : Value.okWide P w r base t v) : v.cells.toList = [v] := by
  unfold Value.okWide at h
  cases v with
  | agg cs =>
    rcases ht with ht | ht
    · simp [ht, Cell.okWide, Cell.ok] at h
    · simp [ht, Cell.okWide, Cell.ok] at h
  | _ => rfl
theorem argStr {H : Type} {enc : TypeId × Value → H} {W : World} {base : Nat} {v0 : Value} {d0 : DataW H} {p0 : List MemPlace}
    (hval : Value.okWide Tryd.prog W .any base 9 v0) (h0 : DataW.Trod enc Tryd.prog W 0 (fun _ => true) true 9 v0 d0 p0) (hr : Reached Tryd.prog 9 d0) :
    ∃ a : ByteArray, a.size ≤ 140737488351232 ∧ Rep (Gh.of W) v0 (.s a) := by
  obtain ⟨n, hn⟩ := h0
  obtain ⟨a, h1, h2, h3⟩ := Rd.str (N := n) Tryd.underlying9 enc W 0 _ true n _ _ (Nat.le_refl _) hn
  rw [cells_one (e := 0) (.inr Tryd.underlying9) hval] at h1
  exact ⟨a, h3 hr, h1.rep 0 _ _ rfl rfl⟩
theorem argStrs {H : Type} {enc : TypeId × Value → H} {W : World} {base : Nat} {v0 : Value} {d0 : DataW H} {p0 : List MemPlace}
    (hval : Value.okWide Tryd.prog W .any base 57 v0) (h0 : DataW.Trod enc Tryd.prog W 0 (fun _ => true) true 57 v0 d0 p0) (hr : Reached Tryd.prog 57 d0) :
    ∃ l : List ByteArray, (l.length * 16 ≤ 140737488351232 ∧ ∀ s ∈ l, s.size ≤ 140737488351232) ∧ Rep (Gh.of W) v0 (.lst false 1 (l.map fun s => [.s s])) := by
  obtain ⟨n, hn⟩ := h0
  obtain ⟨a, h1, h2, h3⟩ := Rd.slice (by_ := 16) (sz := 1) Tryd.underlying57 (by kernel_rfl) (by kernel_rfl) (by decide) (fun _ => rfl) (Rd.str (N := n) Tryd.underlying9) enc W 0 _ true n _ _ (by omega) hn
  rw [cells_one (.inl Tryd.underlying57) hval] at h1
  exact ⟨a, h3 hr, h1.rep 0 _ _ rfl rfl⟩
theorem argMs {H : Type} {enc : TypeId × Value → H} {W : World} {base : Nat} {v0 : Value} {d0 : DataW H} {p0 : List MemPlace}
    (hval : Value.okWide Tryd.prog W .any base 23 v0) (h0 : DataW.Trod enc Tryd.prog W 0 (fun _ => true) true 23 v0 d0 p0) (hr : Reached Tryd.prog 23 d0) :
    ∃ l : List (ByteArray × V), (l.length * 104 ≤ 140737488351232 ∧ V.okm l) ∧ Rep (Gh.of W) v0 (.lst false 7 (l.map fun x => .s x.1 :: x.2.d)) := by
  obtain ⟨n, hn⟩ := h0
  obtain ⟨a, h1, h2, h3⟩ := Rd.slice (by_ := 104) (sz := 7) Tryd.underlying23 cellsM (by kernel_rfl) (by decide) (fun a => by simp) (rdM (rdV n)) enc W 0 _ true n _ _ (by omega) hn
  rw [cells_one (.inl Tryd.underlying23) hval] at h1
  exact ⟨a, ⟨(h3 hr).1, okm_of _ (h3 hr).2⟩, h1.rep 0 _ _ rfl rfl⟩
end Go.Proofs.YtmjendeigjdihaaDoor
/-
  The card of the law ValueTexts: it holds for every input.
-/
namespace Go.Proofs.YtmjendeigjdihaaDoor.valueTexts
open Go.ChangeShapes Go.WideShapes Go.ChangeAt Go.RowKit
set_option maxRecDepth 100000
set_option linter.unusedVariables false
set_option linter.unusedSimpArgs false

theorem laid_eq : Rows.valueTextsRow.laid = Rows.valueChecksRow.laid := rfl
theorem reads (os : Os) {H : Type} (enc : TypeId × Value → H) : ∃ places, DataW.whole enc Tryd.prog ((laidWorld os).forCall (fun _ _ => 0) ⟨#[], #[.slice none 0 0], []⟩).memory Tryd.f6.params.toList Rows.valueTextsSpec.vars false #[.slice none 0 0].toList 8 = some ([.nil], [], places) :=
  ⟨[], by kernel_rfl⟩
theorem contract (H : Type) (enc : TypeId × Value → H) (W : World) (base : Nat) (args : Array Value) (ds gs : List (DataW H)) (before : List MemPlace)
    (hval0 : ∀ (j : Nat) t v, Tryd.f6.params[j]? = some t → args[j]? = some v → Value.okWide Tryd.prog W .any base t v)
    (hW : DataW.Whole enc Tryd.prog Tryd.f6.params.toList Rows.valueTextsSpec.vars false W args.toList ds gs before)
    (hreach : (DataW.weightsEach Tryd.prog (Tryd.f6.params.toList ++ (OpenSpec.ofChange Rows.valueTextsSpec).bare.plain.varTypes Tryd.prog) (ds ++ gs)).all (· ≤ reachBytes) = true)
    (hLM : laidMetH Tryd.prog Rows.valueTextsRow.laid W) (hsh : W.ShapedOpen Tryd.prog) :
    Calls Tryd.prog 6 args W fun e W' => ∃ v, e = .returned v ∧ Rows.valueTextsSpec.post enc Tryd.prog Tryd.f6 false true false false W args v W' := by
  have hval : ∀ (j : Nat) t v, Tryd.f6.params[j]? = some t → args[j]? = some v → Value.okWide Tryd.prog W .any base t v := hval0
  have hW' := hW
  have hlt := hW.lt
  obtain ⟨p, q, hA0, hV, rfl, hfz, hnd⟩ := hW
  have hA : DataW.TrodAll enc Tryd.prog W 0 (fun _ => true) true Tryd.f6.params.toList args.toList ds p := hA0
  rw [Tryd.params6] at hA hval
  obtain ⟨v0, vs0, d0, ds0, p0, q0, hargs, rfl, rfl, h0, r0⟩ := trodAll_cons hA
  obtain ⟨rfl, rfl, rfl⟩ := trodAll_nil r0
  obtain rfl : args = #[v0] := by cases args; simp_all
  obtain ⟨rfl, rfl⟩ := trodVars_none hV
  obtain ⟨a0, o0, R0⟩ := argStrs (hval 0 57 v0 rfl rfl) h0 (reached_arg hreach (j := 0) rfl rfl)
  have C := valueTextsT a0 o0 .none W W (Gh.of W) _ (Sim.start W (baseOk_of hsh hLM)) ((RepL.nil _).cons R0)
  clear hA0 hval0
  refine C.mono fun e W' ⟨σ', G', _, hS, h4⟩ => ?_
  obtain ⟨v, d, he, hr, hd, _⟩ | ⟨_, _, hd⟩ := h4
  case inr => exact hd.elim
  subst hd
  obtain rfl : v = .bool true := hr.v_inv
  subst he
  have hg : Below W.heap.size W W' := hS.below
  have hin0 : ∀ p ∈ p0, p.block < W.heap.size := fun p hp => hlt p (by simp [hp])
  exact ⟨_, rfl, post_of_below (pv := []) hW' (fun _ _ _ => (trodAll_cons_mk (shut_bool Tryd.underlying4 _) trodAll_mk0))
    (fun sp hsp => (trodAll_cons_mk (WideElems.Trod_stays laidOut (by kernel_rfl) (of_decide_eq_true (by kernel_rfl)) h0 (fun p hp => below_sameAt hg (hin0 p hp)) (fun p hp => hsp p (by simp [hp]))) trodAll_mk0)) (fun _ _ => rfl) rfl
    hg (ok_one (by kernel_rfl) rfl (okWide_bool_mk Tryd.underlying4 _))⟩

theorem lifted (os : Os) (started : os.Started) (H : Type) (enc : TypeId × Value → H) (F : Stop.Interp) :
    ReturnsInHanded {} Tryd.checked os 6 .any ((OpenSpec.ofChange Rows.valueTextsSpec).preRow enc Tryd.prog Tryd.f6 Rows.valueTextsRow.domain false Rows.valueTextsRow.laid) (((OpenSpec.ofChange Rows.valueTextsSpec).at F).post enc Tryd.prog Tryd.f6 false true false false) := by
  obtain ⟨places, hx⟩ := reads os enc
  refine returnsInHanded_of_row (C := Tryd.checked) (s := OpenSpec.ofChange Rows.valueTextsSpec) own started (by kernel_rfl) Tryd.func6
    (witness_row_at (enc := enc) (C := Tryd.checked) false (laidWorld os) #[.slice none 0 0] rfl (by kernel_rfl) (by kernel_rfl) (by kernel_rfl)
      (OpenSpec.preRow_of_cond 8 hx (by kernel_rfl) (fun k hk => by cases hk) (by kernel_rfl) (laid_met os _))) ?_
  intro W base args ds gs before hval hW _ _ hreach hL hsh _
  exact contract H enc W base args ds gs before hval hW hreach hL hsh

theorem said : Rows.ValueTextsSaid :=
  OpenClaim.holds_of_cond 6 Tryd.f6 rfl rfl rfl rfl rfl rfl rfl ⟨rfl, rfl, rfl, rfl, rfl⟩ rfl rfl rfl rfl rfl (by kernel_rfl) Tryd.func6 (by kernel_rfl)
    (of_decide_eq_true (by kernel_rfl)) (by unfold Func.isWrapper; first | (rw [if_pos (by decide +kernel)]; kernel_rfl) | (rw [if_neg (by decide +kernel)]; exact ⟨rfl, rfl⟩))
    (fun os started H enc _ F => by rw [OpenClaim.pre_eq_preRow]; exact lifted os started H enc F)

theorem plain (f : FuncId) (fn : Func) (hf : Tryd.pinned.checked.prog.funcNamed "enfilade/enfiladelaw01.ValueTexts" = some f) (hfn : Tryd.pinned.checked.prog.funcs[f]? = some fn) :
    true = Tryd.pinned.checked.prog.looks [] ∧ ∀ (j : Nat) t, fn.params[j]? = some t → Tryd.pinned.checked.prog.wantsStandIn t = false := by
  obtain rfl : f = 6 := Option.some.inj ((show Tryd.prog.funcNamed "enfilade/enfiladelaw01.ValueTexts" = some 6 by kernel_rfl).symm.trans hf) |>.symm
  obtain rfl : fn = Tryd.f6 := (Option.some.inj (Tryd.func6.symm.trans hfn)).symm
  refine ⟨by kernel_rfl, fun j t ht => ?_⟩
  rw [Tryd.params6] at ht
  have h2 : t = 57 := by simpa using Array.mem_of_getElem? ht
  subst h2
  exact (show Tryd.prog.wantsStandIn 57 = false by kernel_rfl)

theorem proved : Rows.ValueTextsCardSaid :=
  Claim7.holds_tied_plain_at .later [] _ _ _ _ said (fun _ h => by cases h) (by kernel_rfl) (fun _ h => by cases h) valueTexts_row_tie rfl ⟨rfl, rfl⟩ (by kernel_rfl) rfl plain (by kernel_rfl)
#print axioms proved
end Go.Proofs.YtmjendeigjdihaaDoor.valueTexts
