/-
  The row of the law WalkRoots: it holds for every input.
-/
import Derived.Test.YtcmingndbhldgaaWa3
import Derived.Test.YtcmingndbhldgaaWa1
import Derived.HandedShaped
/-
  Walks (chapter 20): the law WalkRoots, walked.
-/
namespace Go.Proofs.Ytcmingndbhldgaa
open Go.RowKit
set_option maxRecDepth 100000
set_option linter.unusedVariables false
set_option linter.unusedSimpArgs false
attribute [local irreducible] awp aops aop aput aseq ablock TriX Tri Ret Fresh dq adraw dtail dals dfin Wk

/-- Of a row of rooms that have no children any more: what is told. -/
def rootsW (A : ByteArray → Fnd) : List Stp → List ByteArray → List Stp
  | [], _ => []
  | x :: rest, came =>
    if inS came x.room then rootsW A rest came
    else if (A x.room).1 = 0 then []
    else if (A x.room).1 = 2 then x :: rootsW A rest (came ++ [x.room])
    else rootsW A rest (came ++ [x.room])
theorem rootsW_next (A : ByteArray → Fnd) (dep : Int) (sug : Bool) : ∀ (row : List Stp) (came : List ByteArray), (∀ x ∈ row, ¬ x.depth < dep) →
    rootsW A row came = (match (nextW A dep sug row came) with | (q, some (s, k)) => if k = 2 then s :: rootsW A q.1 q.2 else [] | (_, none) => []) ∧ (∀ x ∈ (nextW A dep sug row came).1.1, ¬ x.depth < dep)
  | [], came, _ => ⟨rfl, by simp [nextW]⟩
  | x :: rest, came, h => by
    have hr : ∀ y ∈ rest, ¬ y.depth < dep := fun y hy => h y (List.mem_cons_of_mem _ hy)
    rw [rootsW, nextW]
    split
    · exact rootsW_next A dep sug rest came hr
    · split
      · exact ⟨rfl, h⟩
      · split
        · have hb : belowW dep sug x (A x.room).2 = [] := if_neg (h x List.mem_cons_self)
          rw [hb, List.nil_append]
          exact ⟨rfl, hr⟩
        · exact rootsW_next A dep sug rest (came ++ [x.room]) hr
theorem allW_roots (A : ByteArray → Fnd) (dep : Int) (sug : Bool) (B : Nat) (hB : ∀ r, (A r).2.length ≤ B) : ∀ (f : Nat) (row : List Stp) (came : List ByteArray), (∀ x ∈ row, ¬ x.depth < dep) → wtL B dep row < f → allW A dep sug f row came = rootsW A row came
  | 0, row, came, _, h => by omega
  | f + 1, row, came, h, hf => by
    obtain ⟨h1, h2⟩ := rootsW_next A dep sug row came h
    rw [h1, allW_rest]
    have hw := nextW_wt A dep sug B hB row came
    rcases hn : nextW A dep sug row came with ⟨q, _ | ⟨s, k⟩⟩
    · rfl
    · rw [hn] at h2 hw
      rw [restW]
      simp only
      split
      · rename_i hk
        subst hk
        have := hw q s rfl
        rw [allW_roots A dep sug B hB f q.1 q.2 h2 (by omega)]
      · rfl
theorem allP_root (A : ByteArray → Fnd) (root : ByteArray) (dep : Int) (sug : Bool) (B : Nat) (hB : ∀ r, (A r).2.length ≤ B) (hd : dep = 0 ∨ dep = 1) :
    allP A root dep sug B = if isB 1 root = true ∧ (A root).1 = 2 then ⟨root, 0, []⟩ :: rootsW A (belowW dep sug ⟨root, 0, []⟩ (A root).2) [root] else [] := by
  have hdd : 0 ≤ dep ∧ dep ≤ 10 := by omega
  unfold allP
  by_cases hb : isB 1 root = true
  · rw [if_pos ⟨hb, hdd⟩, allW_rest]
    by_cases hk : (A root).1 = 2
    · rw [if_pos ⟨hb, hk⟩]
      have hn : nextW A dep sug [⟨root, 0, []⟩] [] = ((belowW dep sug ⟨root, 0, []⟩ (A root).2 ++ [], [] ++ [root]), some (⟨root, 0, []⟩, 2)) := by
        rw [nextW, if_neg (by simp [inS]), if_neg (by simp only; rw [hk]; decide), if_pos (by simp only; exact hk)]
      rw [hn, restW, if_pos rfl, List.append_nil, List.nil_append]
      have hw := wtL_below B dep sug ⟨root, 0, []⟩ (A root).2 (hB _)
      rw [allW_roots A dep sug B hB]
      · intro x hx
        unfold belowW at hx
        split at hx
        · obtain ⟨c, _, rfl⟩ := List.mem_map.1 hx
          simp only
          omega
        · cases hx
      · refine Nat.lt_of_lt_of_le hw ?_
        unfold wtS
        exact wtN_mono B (by simp only; omega)
    · rw [if_neg (fun e => hk e.2), nextW, if_neg (by simp [inS])]
      by_cases h0 : (A root).1 = 0
      · rw [if_pos (by simp only; exact h0)]; rfl
      · rw [if_neg (by simp only; exact h0), if_neg (by simp only; exact hk)]; rfl
  · rw [if_neg (fun e => hb e.1), if_neg (fun e => hb e.1)]
theorem allP_root' (A : ByteArray → Fnd) (root : ByteArray) (dep : Int) (sug : Bool) (B : Nat) (hB : ∀ r, (A r).2.length ≤ B) (hd : dep = 0 ∨ dep = 1) {k : Int} {ch : List Chd} (hk : (A root).1 = k) (hc : (A root).2 = ch) :
    allP A root dep sug B = if isB 1 root = true ∧ k = 2 then ⟨root, 0, []⟩ :: rootsW A (belowW dep sug ⟨root, 0, []⟩ ch) [root] else [] := by
  subst hk
  subst hc
  exact allP_root A root dep sug B hB hd
theorem rootsW_step (A : ByteArray → Fnd) (sug : Bool) (ch : List Chd) (came : List ByteArray) (j : Nat) (h : j < ch.length) :
    rootsW A (belowL sug 0 (ch.drop j)) came = if (ch[j].sug || !sug) = true ∧ inS came ch[j].room = false then (if (A ch[j].room).1 = 0 then [] else if (A ch[j].room).1 = 2 then ⟨ch[j].room, 1, ch[j].via⟩ :: rootsW A (belowL sug 0 (ch.drop (j + 1))) (came ++ [ch[j].room]) else rootsW A (belowL sug 0 (ch.drop (j + 1))) (came ++ [ch[j].room])) else rootsW A (belowL sug 0 (ch.drop (j + 1))) came := by
  have e : belowL sug 0 (ch.drop j) = if (ch[j].sug || !sug) = true then ⟨ch[j].room, 1, ch[j].via⟩ :: belowL sug 0 (ch.drop (j + 1)) else belowL sug 0 (ch.drop (j + 1)) := by
    rw [List.drop_eq_getElem_cons h]
    unfold belowL
    rw [List.filter_cons]
    split <;> rfl
  rw [e]
  by_cases hp : (ch[j].sug || !sug) = true
  · rw [if_pos hp, rootsW]
    cases hc : inS came ch[j].room with
    | true => rw [if_pos rfl, if_neg (by simp)]
    | false =>
      have hand : (ch[j].sug || !sug) = true ∧ false = false := ⟨hp, rfl⟩
      rw [if_pos hand, if_neg (by decide)]
  · rw [if_neg hp, if_neg (fun e => hp e.1)]
theorem below_root0 (sug : Bool) (root : ByteArray) (ch : List Chd) : belowW 0 sug ⟨root, 0, []⟩ ch = [] := rfl
theorem below_root1 (sug : Bool) (root : ByteArray) (ch : List Chd) : belowW 1 sug ⟨root, 0, []⟩ ch = belowL sug 0 ch := rfl
set_option maxHeartbeats 16000000 in
theorem walkRootsT (l : List RF) (hl : RFok l) (root : ByteArray) (hroot : root.size ≤ 140737488351232) (dep fr : Int) (sug : Bool) (σ : St) :
    Tri Try.prog 4 [.lst false 3 (l.map RF.d), wayD root dep fr sug] σ fun d τ => d = .b true ∧ τ = σ := by
  have AW := Lib.hid awakeT
  have FT := Lib.hid (fewT l hl)
  unfold wayD
  by_cases hbig : 150 < root.size
  · cases hfw : fewR l
    all_goals
      rw [hfw] at FT
      clear hfw
      refine tri_fn Try.func4 rfl Try.ntmps4 Try.results4 (Nat.le_of_ble_eq_true rfl) ?_
      refine' wlk2 AW.out FT.out
      ((try simp [*]); (try simp (discharger := omega) only [wrap_i64, dec_t, dec_f]))
      exact .mk _ σ (.refl _) leT ⟨rfl, rfl⟩
  · cases hfw : fewR l with
    | false =>
      rw [hfw] at FT
      clear hfw
      refine tri_fn Try.func4 rfl Try.ntmps4 Try.results4 (Nat.le_of_ble_eq_true rfl) ?_
      refine' wlk2 AW.out FT.out
      ((try simp [*]); (try simp (discharger := omega) only [wrap_i64, dec_t, dec_f]))
      exact .mk _ σ (.refl _) leT ⟨rfl, rfl⟩
    | true =>
      rw [hfw] at FT
      have AT := Lib.hid (askT l)
      have W0 := Lib.hid (walkAllT (askA l) 18 [.ptr [.lst false 3 (l.map RF.d)]] 12 (ask_ok l hfw) (by decide) root 0 sug (by omega))
      have W1 := Lib.hid (walkAllT (askA l) 18 [.ptr [.lst false 3 (l.map RF.d)]] 12 (ask_ok l hfw) (by decide) root 1 sug (by omega))
      have FEW : ∀ r, (askA l r).2.length ≤ 12 := fun r => (askR_few hfw r).1
      have hl16 := (fewR_at hfw).1
      have HAR := Lib.hid (fun room => refAskT l room (by omega))
      have RN := Lib.hid (fun σ => refNewT root 0 false σ (by omega))
      have HAF := Lib.hid (fun room => askR_few hfw room)
      have HRR := Lib.hid (HAR.out root)
      have hgf := (HAF.out root).1
      obtain ⟨g, hg⟩ : ∃ g, g = askR l root := ⟨_, rfl⟩
      have ek : (askA l root).1 = g.kind := by unfold askA; rw [← hg]
      have ec : (askA l root).2 = g.ch := by unfold askA; rw [← hg]
      rw [← hg] at HRR hgf
      rw [allP_root' (askA l) root 0 sug 12 FEW (.inl rfl) ek ec, below_root0] at W0
      rw [allP_root' (askA l) root 1 sug 12 FEW (.inr rfl) ek ec, below_root1] at W1
      clear hg ek ec FEW hfw
      obtain ⟨gr, gk, gc⟩ := g
      simp only at W0 W1 hgf
      rw [RF.d] at HRR
      simp only at HRR
      cases hb : isB 1 root with
      | false =>
        have hN : RefNewR root 0 false = fun σ d τ => d = .tup [wD 0 false [] [], eD 7 (slash ++ sRoomId)] ∧ τ = σ := by funext σ d τ; unfold RefNewR; rw [hb, if_neg (by decide)]
        rw [hN, wD, eD] at RN
        rw [hb, if_neg (by simp)] at W0 W1
        clear hb hN
        refine tri_fn Try.func4 rfl Try.ntmps4 Try.results4 (Nat.le_of_ble_eq_true rfl) ?_
        refine' wlk2 AW.out FT.out
        (refine awp_draw (fun KS EG hK hP => ?_); refine draw_rule rfl [(0, true), (1, false), (2, true), (3, false), (4, true), (5, false), (6, false), (7, true)] [] [] (by kernel_rfl) ?_; refine' dqs2 AT.out W0.out)
        refine' wlk0
        (refine awp_draw (fun KS EG hK hP => ?_); refine draw_rule rfl [(0, true), (1, false), (2, true), (3, false), (4, true), (5, false), (6, false), (7, true)] [] [] (by kernel_rfl) ?_; refine' dqs2 AT.out W1.out)
        refine' wlk2 HRR.out RN.out
        ((try simp [*]); (try simp (discharger := omega) only [wrap_i64, dec_t, dec_f]))
        exact .mk _ σ (.refl _) leT ⟨rfl, rfl⟩
      | true =>
        have hN : RefNewR root 0 false = fun σ d τ => d = .tup [wD 0 false [⟨root, 0, []⟩] [], eD 0 ByteArray.empty] ∧ τ = σ := by funext σ d τ; unfold RefNewR; rw [hb, if_pos rfl, if_pos (by decide)]
        rw [hN, wD, eD] at RN
        rw [hb] at W0 W1
        clear hb hN
        by_cases hk : gk = 2
        · subst hk
          rw [if_pos ⟨rfl, rfl⟩] at W0 W1
          obtain ⟨L1, hL1⟩ : ∃ L1, L1 = (⟨root, 0, []⟩ : Stp) :: rootsW (askA l) (belowL sug 0 gc) [root] := ⟨_, rfl⟩
          have hlen0 : 0 < L1.length := by rw [hL1]; simp
          have h0d : L1[0].d = [.s root, .i 0, .lst false 1 []] := by subst hL1; rfl
          have hne1 : ¬ L1 = [] := by rw [hL1]; simp
          rw [← hL1] at W1
          replace hL1 := Lib.hid hL1
          have hz : (((⟨root, 0, []⟩ : Stp) :: rootsW (askA l) [] [root]).map Stp.d) = [[.s root, .i 0, .lst false 1 []]] := rfl
          rw [hz] at W0
          clear hz
          refine tri_fn Try.func4 rfl Try.ntmps4 Try.results4 (Nat.le_of_ble_eq_true rfl) ?_
          refine' wlk2 AW.out FT.out
          obtain ⟨b3, hb3⟩ : ∃ b3, b3 = b := ⟨_, rfl⟩
          subst hb3
          have hf3 : Fresh σ b3 := by assumption
          (refine awp_draw (fun KS EG hK hP => ?_); refine draw_rule rfl [(0, true), (1, false), (2, true), (3, false), (4, true), (5, false), (6, false), (7, true)] [] [] (by kernel_rfl) ?_; refine' dqs2 AT.out W0.out)
          refine' wlk0
          (refine awp_draw (fun KS EG hK hP => ?_); refine draw_rule rfl [(0, true), (1, false), (2, true), (3, false), (4, true), (5, false), (6, false), (7, true)] [] [] (by kernel_rfl) ?_; refine' dqs2 AT.out W1.out)
          refine' wlk2 HRR.out RN.out
          have hmk0 : mkeys ([] : List (Value × D)) := fun y hy => by cases hy
          (refine awp_draw (fun KS EG hK hP => ?_); refine draw_rule rfl [(0, true), (1, false), (2, true), (3, true), (4, true), (5, true), (6, true), (7, false), (8, true), (9, false), (10, true), (11, true), (12, true), (13, true), (14, false), (15, true), (16, true), (17, true), (18, true), (19, true), (20, true), (21, false), (22, true), (23, false), (24, true), (25, true)] [] [] (by kernel_rfl) ?_; refine' dqs0)
          refine' wlk0
          obtain ⟨bm, hbm⟩ : ∃ bm, bm = b := ⟨_, rfl⟩
          subst hbm
          have hfm : Fresh σ bm := by assumption
          refine awp_loopM [4, 10, 13, 101, 102, 103, 104, 105, 106, 107, 108, 109, 110, 111, 112, 113, 114, 115, 116, 117, 118, 119, 120, 121, 122, 123, 124, 125, 126, 127, 128, 129, 130, 131, 132, 133, 134, 135, 136, 137, 138, 139, 140, 141, 142, 143, 144, 145, 146, 147, 148, 149, 150, 151, 152, 153, 154, 155, 156, 157, 158, 159, 160, 161] (fun X τ => ∃ (j : Nat) (came : List ByteArray) (tl : List Stp), j ≤ gc.length ∧ tl.length ≤ j ∧ X 101 = .i j ∧ X 10 = .i (tl.length + 1 : Nat) ∧ L1 = (⟨root, 0, []⟩ : Stp) :: (tl ++ rootsW (askA l) (belowL sug 0 (gc.drop j)) came) ∧ τ.own b3 = some (.box 24 [.s root, .i dep, .i fr, .b sug]) ∧ τ.own bm = some (.mp (cameE came)) ∧ σ.le τ) (fun X _ => gc.length - (X 101).int.toNat) ?_ ?_
          · refine .same ⟨mix_self _ _, 0, [root], [], by omega, by simp, by simp [*], by simp [*], hL1.out, ?_, ?_, ?_⟩
            · simp [own_set, *]
            · simp [own_set, *, mput, cameE]
            · repeat (first | exact St.le_refl _ | (refine St.le_set ?_ ?_; rotate_left; (focus assumption)))
          · rintro X τ ⟨j, came, tl, hj, htl, h101, h10, hLL, hown1, hown2, hle⟩ _ hL
            have HLE := Lib.hid hle
            clear hle
            by_cases hjt : j < gc.length
            · have hcd : gc[j].d = [.s gc[j].room, .s gc[j].order, .lst false 1 (txtD gc[j].via), .b gc[j].sug, .i gc[j].ts] := rfl
              have hst := rootsW_step (askA l) sug gc came j hjt
              rw [hst] at hLL
              clear hst
              have RK := Lib.hid (HAR.out gc[j].room)
              have ek : (askA l gc[j].room).1 = (askR l gc[j].room).kind := rfl
              rw [ek] at hLL
              obtain ⟨kq, hkq⟩ : ∃ kq, kq = (askR l gc[j].room).kind := ⟨_, rfl⟩
              rw [RF.d, ← hkq] at RK
              have HLL : ∀ k, k = (askR l gc[j].room).kind → L1 = _ := fun k hk => hk ▸ hLL
              replace HLL := Lib.hid (HLL kq hkq)
              clear hkq ek hLL
              have hmk := cameE_keys came
              have hmf := cameE_find came gc[j].room
              have hput0 := cameE_put came gc[j].room
              obtain ⟨es, hes⟩ : ∃ es, es = cameE came := ⟨_, rfl⟩
              rw [← hes] at hmk hmf hput0 hown2
              have HES := Lib.hid hes
              clear hes
              cases hin : inS came gc[j].room with
              | true =>
                rw [hin, if_pos rfl] at hmf
                have hL2 := HLL.out
                rw [if_neg (by rw [hin]; simp)] at hL2
                replace hL2 := Lib.hid hL2
                clear hput0 hin
                refine' wlk0
                refine hL.out _ _ (.less τ leT (.same ⟨mixT, ⟨j + 1, came, tl, by omega, by omega, ?_, ?_, hL2.out, hown1, by rw [hown2, HES.out], HLE.out⟩, ?_⟩))
                · simp [*]
                · simp [*]
                · simp [*, D.int]; omega
              | false =>
                rw [hin, if_neg (by decide)] at hmf
                have hput := Lib.hid (hput0 hin)
                have HIN := Lib.hid hin
                clear hput0 hin
                cases hs : sug <;> cases hcs : gc[j].sug
                · subst hs
                  have hpass : (gc[j].sug || !false) = true ∧ inS came gc[j].room = false := ⟨by rw [hcs]; rfl, HIN.out⟩
                  have hL3 := HLL.out
                  rw [if_pos hpass] at hL3
                  clear hpass
                  by_cases hk0 : kq = 0
                  · subst hk0
                    rw [if_pos rfl, List.append_nil] at hL3
                    have hl1 : L1.length = tl.length + 1 := by rw [hL3]; simp
                    clear hL3
                    refine' wlk1 RK.out
                    ((try simp [*]); (try simp (discharger := omega) only [wrap_i64, dec_t, dec_f]))
                    refine .mk _ σ (.refl _) ?_ ⟨by simp [*], rfl⟩
                    repeat (first | exact HLE.out | (refine St.le_set ?_ ?_; rotate_left; (focus (first | assumption | exact Fresh.of_le HLE.out (by assumption)))))
                  · by_cases hk2 : kq = 2
                    · subst hk2
                      rw [if_neg (by decide), if_pos rfl] at hL3
                      have hkl : tl.length + 1 < L1.length := by rw [hL3]; simp
                      have hLk : L1[tl.length + 1] = ⟨gc[j].room, 1, gc[j].via⟩ := by
                        have : L1[tl.length + 1]? = some ⟨gc[j].room, 1, gc[j].via⟩ := by rw [hL3]; simp
                        rw [List.getElem?_eq_getElem hkl] at this
                        exact Option.some.inj this
                      have hkd : L1[tl.length + 1].d = [.s gc[j].room, .i 1, .lst false 1 (txtD gc[j].via)] := by rw [hLk]; rfl
                      have hL2 := Lib.hid (show L1 = (⟨root, 0, []⟩ : Stp) :: ((tl ++ [⟨gc[j].room, 1, gc[j].via⟩]) ++ rootsW (askA l) (belowL false 0 (gc.drop (j + 1))) (came ++ [gc[j].room])) by rw [hL3]; simp)
                      clear hL3 hLk
                      refine' wlk1 RK.out
                      (refine awp_draw (fun KS EG hK hP => ?_); refine draw_rule rfl [(0, true), (1, true), (2, false), (3, true), (4, true), (5, true), (6, true), (7, true), (8, true), (9, false), (10, true), (11, false), (12, true), (13, true), (14, true), (15, true), (16, true), (17, true), (18, true), (19, false), (20, true), (21, true)] [] [] (by kernel_rfl) ?_; refine' dqs0)
                      refine' wlk0
                      refine hL.out _ _ (.same ⟨mixT, ⟨j + 1, came ++ [gc[j].room], tl ++ [⟨gc[j].room, 1, gc[j].via⟩], by omega, ?_, ?_, ?_, hL2.out, ?_, ?_, ?_⟩, ?_⟩)
                      · rw [List.length_append]; simp only [List.length_singleton]; omega
                      · simp [*]
                      · simp [*]
                      · simp [own_set, *]
                      · rw [own_same]; exact congrArg (fun x => some (Own.mp x)) hput.out
                      · repeat (first | exact HLE.out | (refine St.le_set ?_ ?_; rotate_left; (focus (first | assumption | exact Fresh.of_le HLE.out (by assumption)))))
                      · simp [*, D.int]; omega
                    · rw [if_neg hk0, if_neg hk2] at hL3
                      have hL2 := Lib.hid hL3
                      clear hL3
                      refine' wlk1 RK.out
                      refine hL.out _ _ (.same ⟨mixT, ⟨j + 1, came ++ [gc[j].room], tl, by omega, by omega, ?_, ?_, hL2.out, ?_, ?_, ?_⟩, ?_⟩)
                      · simp [*]
                      · simp [*]
                      · simp [own_set, *]
                      · rw [own_same]; exact congrArg (fun x => some (Own.mp x)) hput.out
                      · repeat (first | exact HLE.out | (refine St.le_set ?_ ?_; rotate_left; (focus (first | assumption | exact Fresh.of_le HLE.out (by assumption)))))
                      · simp [*, D.int]; omega
                · subst hs
                  have hpass : (gc[j].sug || !false) = true ∧ inS came gc[j].room = false := ⟨by rw [hcs]; rfl, HIN.out⟩
                  have hL3 := HLL.out
                  rw [if_pos hpass] at hL3
                  clear hpass
                  by_cases hk0 : kq = 0
                  · subst hk0
                    rw [if_pos rfl, List.append_nil] at hL3
                    have hl1 : L1.length = tl.length + 1 := by rw [hL3]; simp
                    clear hL3
                    refine' wlk1 RK.out
                    ((try simp [*]); (try simp (discharger := omega) only [wrap_i64, dec_t, dec_f]))
                    refine .mk _ σ (.refl _) ?_ ⟨by simp [*], rfl⟩
                    repeat (first | exact HLE.out | (refine St.le_set ?_ ?_; rotate_left; (focus (first | assumption | exact Fresh.of_le HLE.out (by assumption)))))
                  · by_cases hk2 : kq = 2
                    · subst hk2
                      rw [if_neg (by decide), if_pos rfl] at hL3
                      have hkl : tl.length + 1 < L1.length := by rw [hL3]; simp
                      have hLk : L1[tl.length + 1] = ⟨gc[j].room, 1, gc[j].via⟩ := by
                        have : L1[tl.length + 1]? = some ⟨gc[j].room, 1, gc[j].via⟩ := by rw [hL3]; simp
                        rw [List.getElem?_eq_getElem hkl] at this
                        exact Option.some.inj this
                      have hkd : L1[tl.length + 1].d = [.s gc[j].room, .i 1, .lst false 1 (txtD gc[j].via)] := by rw [hLk]; rfl
                      have hL2 := Lib.hid (show L1 = (⟨root, 0, []⟩ : Stp) :: ((tl ++ [⟨gc[j].room, 1, gc[j].via⟩]) ++ rootsW (askA l) (belowL false 0 (gc.drop (j + 1))) (came ++ [gc[j].room])) by rw [hL3]; simp)
                      clear hL3 hLk
                      refine' wlk1 RK.out
                      (refine awp_draw (fun KS EG hK hP => ?_); refine draw_rule rfl [(0, true), (1, true), (2, false), (3, true), (4, true), (5, true), (6, true), (7, true), (8, true), (9, false), (10, true), (11, false), (12, true), (13, true), (14, true), (15, true), (16, true), (17, true), (18, true), (19, false), (20, true), (21, true)] [] [] (by kernel_rfl) ?_; refine' dqs0)
                      refine' wlk0
                      refine hL.out _ _ (.same ⟨mixT, ⟨j + 1, came ++ [gc[j].room], tl ++ [⟨gc[j].room, 1, gc[j].via⟩], by omega, ?_, ?_, ?_, hL2.out, ?_, ?_, ?_⟩, ?_⟩)
                      · rw [List.length_append]; simp only [List.length_singleton]; omega
                      · simp [*]
                      · simp [*]
                      · simp [own_set, *]
                      · rw [own_same]; exact congrArg (fun x => some (Own.mp x)) hput.out
                      · repeat (first | exact HLE.out | (refine St.le_set ?_ ?_; rotate_left; (focus (first | assumption | exact Fresh.of_le HLE.out (by assumption)))))
                      · simp [*, D.int]; omega
                    · rw [if_neg hk0, if_neg hk2] at hL3
                      have hL2 := Lib.hid hL3
                      clear hL3
                      refine' wlk1 RK.out
                      refine hL.out _ _ (.same ⟨mixT, ⟨j + 1, came ++ [gc[j].room], tl, by omega, by omega, ?_, ?_, hL2.out, ?_, ?_, ?_⟩, ?_⟩)
                      · simp [*]
                      · simp [*]
                      · simp [own_set, *]
                      · rw [own_same]; exact congrArg (fun x => some (Own.mp x)) hput.out
                      · repeat (first | exact HLE.out | (refine St.le_set ?_ ?_; rotate_left; (focus (first | assumption | exact Fresh.of_le HLE.out (by assumption)))))
                      · simp [*, D.int]; omega
                · subst hs
                  have hL2 := HLL.out
                  rw [if_neg (by rw [hcs]; simp)] at hL2
                  replace hL2 := Lib.hid hL2
                  refine' wlk0
                  refine hL.out _ _ (.less τ leT (.same ⟨mixT, ⟨j + 1, came, tl, by omega, by omega, ?_, ?_, hL2.out, hown1, by rw [hown2, HES.out], HLE.out⟩, ?_⟩))
                  · simp [*]
                  · simp [*]
                  · simp [*, D.int]; omega
                · subst hs
                  have hpass : (gc[j].sug || !true) = true ∧ inS came gc[j].room = false := ⟨by rw [hcs]; rfl, HIN.out⟩
                  have hL3 := HLL.out
                  rw [if_pos hpass] at hL3
                  clear hpass
                  by_cases hk0 : kq = 0
                  · subst hk0
                    rw [if_pos rfl, List.append_nil] at hL3
                    have hl1 : L1.length = tl.length + 1 := by rw [hL3]; simp
                    clear hL3
                    refine' wlk1 RK.out
                    ((try simp [*]); (try simp (discharger := omega) only [wrap_i64, dec_t, dec_f]))
                    refine .mk _ σ (.refl _) ?_ ⟨by simp [*], rfl⟩
                    repeat (first | exact HLE.out | (refine St.le_set ?_ ?_; rotate_left; (focus (first | assumption | exact Fresh.of_le HLE.out (by assumption)))))
                  · by_cases hk2 : kq = 2
                    · subst hk2
                      rw [if_neg (by decide), if_pos rfl] at hL3
                      have hkl : tl.length + 1 < L1.length := by rw [hL3]; simp
                      have hLk : L1[tl.length + 1] = ⟨gc[j].room, 1, gc[j].via⟩ := by
                        have : L1[tl.length + 1]? = some ⟨gc[j].room, 1, gc[j].via⟩ := by rw [hL3]; simp
                        rw [List.getElem?_eq_getElem hkl] at this
                        exact Option.some.inj this
                      have hkd : L1[tl.length + 1].d = [.s gc[j].room, .i 1, .lst false 1 (txtD gc[j].via)] := by rw [hLk]; rfl
                      have hL2 := Lib.hid (show L1 = (⟨root, 0, []⟩ : Stp) :: ((tl ++ [⟨gc[j].room, 1, gc[j].via⟩]) ++ rootsW (askA l) (belowL true 0 (gc.drop (j + 1))) (came ++ [gc[j].room])) by rw [hL3]; simp)
                      clear hL3 hLk
                      refine' wlk1 RK.out
                      (refine awp_draw (fun KS EG hK hP => ?_); refine draw_rule rfl [(0, true), (1, true), (2, false), (3, true), (4, true), (5, true), (6, true), (7, true), (8, true), (9, false), (10, true), (11, false), (12, true), (13, true), (14, true), (15, true), (16, true), (17, true), (18, true), (19, false), (20, true), (21, true)] [] [] (by kernel_rfl) ?_; refine' dqs0)
                      refine' wlk0
                      refine hL.out _ _ (.same ⟨mixT, ⟨j + 1, came ++ [gc[j].room], tl ++ [⟨gc[j].room, 1, gc[j].via⟩], by omega, ?_, ?_, ?_, hL2.out, ?_, ?_, ?_⟩, ?_⟩)
                      · rw [List.length_append]; simp only [List.length_singleton]; omega
                      · simp [*]
                      · simp [*]
                      · simp [own_set, *]
                      · rw [own_same]; exact congrArg (fun x => some (Own.mp x)) hput.out
                      · repeat (first | exact HLE.out | (refine St.le_set ?_ ?_; rotate_left; (focus (first | assumption | exact Fresh.of_le HLE.out (by assumption)))))
                      · simp [*, D.int]; omega
                    · rw [if_neg hk0, if_neg hk2] at hL3
                      have hL2 := Lib.hid hL3
                      clear hL3
                      refine' wlk1 RK.out
                      refine hL.out _ _ (.same ⟨mixT, ⟨j + 1, came ++ [gc[j].room], tl, by omega, by omega, ?_, ?_, hL2.out, ?_, ?_, ?_⟩, ?_⟩)
                      · simp [*]
                      · simp [*]
                      · simp [own_set, *]
                      · rw [own_same]; exact congrArg (fun x => some (Own.mp x)) hput.out
                      · repeat (first | exact HLE.out | (refine St.le_set ?_ ?_; rotate_left; (focus (first | assumption | exact Fresh.of_le HLE.out (by assumption)))))
                      · simp [*, D.int]; omega
            · have hje : j = gc.length := by omega
              have hl1 : L1.length = tl.length + 1 := by
                rw [hLL, hje, List.drop_length]
                simp [belowL, rootsW]
              clear hLL
              refine' wlk0
              ((try simp [*]); (try simp (discharger := omega) only [wrap_i64, dec_t, dec_f]))
              exact .mk _ σ (.refl _) HLE.out ⟨by simp [*], rfl⟩
        · rw [if_neg (fun e => hk e.2)] at W0 W1
          refine tri_fn Try.func4 rfl Try.ntmps4 Try.results4 (Nat.le_of_ble_eq_true rfl) ?_
          refine' wlk2 AW.out FT.out
          (refine awp_draw (fun KS EG hK hP => ?_); refine draw_rule rfl [(0, true), (1, false), (2, true), (3, false), (4, true), (5, false), (6, false), (7, true)] [] [] (by kernel_rfl) ?_; refine' dqs2 AT.out W0.out)
          refine' wlk0
          (refine awp_draw (fun KS EG hK hP => ?_); refine draw_rule rfl [(0, true), (1, false), (2, true), (3, false), (4, true), (5, false), (6, false), (7, true)] [] [] (by kernel_rfl) ?_; refine' dqs2 AT.out W1.out)
          refine' wlk2 HRR.out RN.out
          ((try simp [*]); (try simp (discharger := omega) only [wrap_i64, dec_t, dec_f]))
          exact .mk _ σ (.refl _) leT ⟨rfl, rfl⟩
end Go.Proofs.Ytcmingndbhldgaa
/-
  The row of the law WalkRoots: it holds for every input.
-/
namespace Go.Proofs.Ytcmingndbhldgaa.walkRoots
open Go.ChangeShapes Go.WideShapes Go.ChangeAt Go.RowKit
set_option maxRecDepth 100000
set_option linter.unusedVariables false
set_option linter.unusedSimpArgs false

theorem walkRoots_args (l : List RF) (x : Way) (h0 : l.length * 48 ≤ reachBytes ∧ ∀ x ∈ l, (x.room.size ≤ reachBytes ∧ (-9223372036854775808 ≤ x.kind ∧ x.kind ≤ 9223372036854775807) ∧ (x.ch.length * 72 ≤ reachBytes ∧ ∀ a ∈ x.ch, (a.room.size ≤ reachBytes ∧ a.order.size ≤ reachBytes ∧ (a.via.length * 16 ≤ reachBytes ∧ ∀ b ∈ a.via, b.size ≤ reachBytes) ∧ (-9223372036854775808 ≤ a.ts ∧ a.ts ≤ 9223372036854775807))))) (h1 : x.root.size ≤ reachBytes ∧ (-9223372036854775808 ≤ x.depth ∧ x.depth ≤ 9223372036854775807) ∧ (-9223372036854775808 ≤ x.fr ∧ x.fr ≤ 9223372036854775807)) (σ : St) : Tri Try.prog 4 [.lst false 3 (l.map RF.d), .agg x.d] σ fun d τ => d = .b true ∧ τ = σ :=
  walkRootsT l (rf_ok h0) x.root (by have := h1.1; rw [reach_num] at this; exact this) x.depth x.fr x.sug σ
theorem lifted (os : Os) (started : os.Started) (H : Type) (enc : TypeId × Value → H) :
    ReturnsInHanded {} Try.checked os 4 .any (Rows.walkRootsSpec.pre6 enc Try.prog Try.f4 Rows.walkRootsRow.domain false) (Rows.walkRootsSpec.post enc Try.prog Try.f4 false true false false) := by
  refine returnsInHanded_of_change_shaped (C := Try.checked) own started (by kernel_rfl) Try.func4
    (ChangeSpec.witness6 (enc := enc) (C := Try.checked) false ⟨#[], #[.slice none 0 0, .agg #[.string ByteArray.empty, .int .i64 0, .int .i64 0, .bool false]], []⟩ 8 (by kernel_rfl) (by kernel_rfl) (by kernel_rfl) (by kernel_rfl)) ?_
  intro W base args ds gs before hval0 hW hcnd hreach hsh _
  have hval : ∀ (j : Nat) t v, Try.f4.params[j]? = some t → args[j]? = some v → Value.okWide Try.prog W .any base t v := hval0
  have hW' := hW
  have hlt := hW.lt
  obtain ⟨p, q, hA0, hV, rfl, hfz, hnd⟩ := hW
  have hA : DataW.TrodAll enc Try.prog W 0 (fun _ => true) true Try.f4.params.toList args.toList ds p := hA0
  rw [Try.params4] at hA hval
  obtain ⟨v0, vs0, d0, ds0, p0, q0, hargs, rfl, rfl, h0, r0⟩ := trodAll_cons hA
  obtain ⟨v1, vs1, d1, ds1, p1, q1, rfl, rfl, rfl, h1, r1⟩ := trodAll_cons r0
  obtain ⟨rfl, rfl, rfl⟩ := trodAll_nil r1
  obtain rfl : args = #[v0, v1] := by cases args; simp_all
  obtain ⟨rfl, rfl⟩ := trodVars_none hV
  obtain ⟨a0, o0, R0⟩ := argFs (hval 0 22 v0 rfl rfl) h0 (reached_arg hreach (j := 0) rfl rfl)
  obtain ⟨a1, o1, R1⟩ := argWay (hval 1 24 v1 rfl rfl) h1 (reached_arg hreach (j := 1) rfl rfl)
  have C := walkRoots_args a0 a1 o0 o1 .none W W (Gh.of W) _ (Sim.start W (baseOk_shaped hsh)) (((RepL.nil _).cons R1).cons R0)
  clear hA0 hval0
  refine C.mono fun e W' ⟨σ', G', _, hS, h4⟩ => ?_
  obtain ⟨v, d, he, hr, hd, _⟩ | ⟨_, _, hd⟩ := h4
  case inr => exact hd.elim
  subst hd
  obtain rfl : v = .bool true := hr.v_inv
  subst he
  have hg : Below W.heap.size W W' := hS.below
  have hin0 : ∀ p ∈ p0, p.block < W.heap.size := fun p hp => hlt p (by simp [hp])
  have hin1 : ∀ p ∈ p1, p.block < W.heap.size := fun p hp => hlt p (by simp [hp])
  exact ⟨_, rfl, post_of_below (pv := []) hW' (fun _ _ _ => (trodAll_cons_mk (shut_bool Try.underlying4 _) trodAll_mk0))
    (fun sp hsp => (trodAll_cons_mk (WideElems.Trod_stays laidOut (by kernel_rfl) (of_decide_eq_true (by kernel_rfl)) h0 (fun p hp => below_sameAt hg (hin0 p hp)) (fun p hp => hsp p (by simp [hp]))) (trodAll_cons_mk (WideElems.Trod_stays laidOut (by kernel_rfl) (of_decide_eq_true (by kernel_rfl)) h1 (fun p hp => below_sameAt hg (hin1 p hp)) (fun p hp => hsp p (by simp [hp]))) trodAll_mk0))) (fun _ _ => rfl) rfl
    hg (ok_one (by kernel_rfl) rfl (okWide_bool_mk Try.underlying4 _))⟩

theorem proved : Rows.WalkRootsSaid :=
  OpenClaim.holds_of_wide 4 Try.f4 rfl rfl rfl rfl rfl rfl rfl ⟨rfl, rfl, rfl, rfl, rfl⟩ rfl rfl rfl rfl rfl (by kernel_rfl) Try.func4 (by kernel_rfl)
    (of_decide_eq_true (by kernel_rfl)) (by unfold Func.isWrapper; first | (rw [if_pos (by decide +kernel)]; kernel_rfl) | (rw [if_neg (by decide +kernel)]; exact ⟨rfl, rfl⟩))
    (fun os started H enc _ => lifted os started H enc)
#print axioms proved
end Go.Proofs.Ytcmingndbhldgaa.walkRoots
