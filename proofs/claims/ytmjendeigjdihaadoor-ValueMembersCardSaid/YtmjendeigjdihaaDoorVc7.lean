/- Part 7 of the proof of CardValueChecks: V25 V26 V27 V14. -/
import Derived.Test.YtmjendeigjdihaaDoorVc6
import Derived.Test.YtmjendeigjdihaaDoorVc5
/-
  A stable sort (chapter 1): two sorted pieces beside each other are made one; lists.
-/
namespace Go.Proofs.YtmjendeigjdihaaDoor
open Go.RowKit
set_option maxRecDepth 100000
set_option linter.unusedVariables false
set_option linter.unusedSimpArgs false
attribute [local irreducible] awp aops aop aput aseq ablock TriX Tri Ret Fresh dq adraw dtail dals dfin Wk

theorem sym_join {L1 L2 R1 R2 M1 M2 : List Mem} (hL : Sorted (L1 ++ L2)) (hR : Sorted (R1 ++ R2)) (h1 : ∀ x ∈ L2, ∀ y ∈ R1, klt y x = true) (h2 : ∀ x ∈ L1, ∀ y ∈ R2, kle x y)
    (p1 : StPerm (L1 ++ R1) M1) (s1 : Sorted M1) (p2 : StPerm (L2 ++ R2) M2) (s2 : Sorted M2) : StPerm (L1 ++ L2 ++ (R1 ++ R2)) (M1 ++ M2) ∧ Sorted (M1 ++ M2) := by
  constructor
  · refine StPerm.trans ?_ (p1.append p2)
    have := (StPerm.refl L1).append ((StPerm.swap h1).append (StPerm.refl R2))
    simpa [List.append_assoc] using this
  · refine sorted_append.2 ⟨s1, s2, fun x hx y hy => ?_⟩
    have hx := p1.mem.2 hx
    have hy := p2.mem.2 hy
    rcases List.mem_append.1 hx with hx | hx <;> rcases List.mem_append.1 hy with hy | hy
    · exact (sorted_append.1 hL).2.2 x hx y hy
    · exact h2 x hx y hy
    · exact kle_of_lt (h1 y hy x hx)
    · exact (sorted_append.1 hR).2.2 x hx y hy
theorem sorted_at {L : List Mem} (h : Sorted L) (x0 : Mem) {i j : Nat} (hij : i ≤ j) (hj : j < L.length) : kle (L.getD i x0) (L.getD j x0) := by
  rw [List.getD_eq_getElem?_getD, List.getD_eq_getElem?_getD, List.getElem?_eq_getElem hj, List.getElem?_eq_getElem (by omega)]
  rcases Nat.lt_or_eq_of_le hij with h1 | rfl
  · exact List.pairwise_iff_getElem.1 h i j (by omega) hj h1
  · exact kle_refl _
theorem mem_take_at {L : List Mem} {x : Mem} {k : Nat} (x0 : Mem) (h : x ∈ L.take k) : ∃ i, i < k ∧ i < L.length ∧ x = L.getD i x0 := by
  obtain ⟨i, hi, rfl⟩ := List.mem_iff_getElem.1 h
  rw [List.length_take] at hi
  refine ⟨i, by omega, by omega, ?_⟩
  rw [List.getD_eq_getElem?_getD, List.getElem?_eq_getElem (by omega), List.getElem_take]
  rfl
theorem mem_drop_at {L : List Mem} {x : Mem} {k : Nat} (x0 : Mem) (h : x ∈ L.drop k) : ∃ i, k ≤ i ∧ i < L.length ∧ x = L.getD i x0 := by
  obtain ⟨i, hi, rfl⟩ := List.mem_iff_getElem.1 h
  rw [List.length_drop] at hi
  refine ⟨k + i, by omega, by omega, ?_⟩
  rw [List.getD_eq_getElem?_getD, List.getElem?_eq_getElem (by omega), List.getElem_drop]
  rfl
theorem sym_split {L R : List Mem} (hL : Sorted L) (hR : Sorted R) (x0 : Mem) (i j : Nat) (hA : i < L.length → 0 < j → j ≤ R.length → klt (R.getD (j - 1) x0) (L.getD i x0) = true) (hB : 0 < i → i ≤ L.length → j < R.length → klt (R.getD j x0) (L.getD (i - 1) x0) = false) (hi : i ≤ L.length) (hj : j ≤ R.length) :
    (∀ x ∈ L.drop i, ∀ y ∈ R.take j, klt y x = true) ∧ (∀ x ∈ L.take i, ∀ y ∈ R.drop j, kle x y) := by
  constructor
  · intro x hx y hy
    obtain ⟨u, hu, hul, rfl⟩ := mem_drop_at x0 hx
    obtain ⟨v, hv, hvl, rfl⟩ := mem_take_at x0 hy
    exact klt_of_lt_le (klt_of_le_lt (sorted_at hR x0 (by omega : v ≤ j - 1) (by omega)) (hA (by omega) (by omega) hj)) (sorted_at hL x0 hu hul)
  · intro x hx y hy
    obtain ⟨u, hu, hul, rfl⟩ := mem_take_at x0 hx
    obtain ⟨v, hv, hvl, rfl⟩ := mem_drop_at x0 hy
    exact kle_trans (sorted_at hL x0 (by omega : u ≤ i - 1) (by omega)) (kle_trans (hB (by omega) hi (by omega)) (sorted_at hR x0 hv hvl))
theorem half (u v : Int) (h0 : 0 ≤ u + v) (h1 : u + v ≤ 9223372036854775807) : IntKind.i64.wrap ((IntKind.u64.wrap (IntKind.i64.wrap (u + v))).fdiv (2 ^ min 1 IntKind.u64.bits)) = (u + v) / 2 := by
  rw [wrap_i64 (u + v) (by omega) (by omega), IntWalk.u64_in (u + v) ⟨by omega, by omega⟩]
  have e : (2 : Int) ^ min 1 IntKind.u64.bits = 2 := rfl
  rw [e, Int.fdiv_eq_ediv_of_nonneg _ (by omega), wrap_i64 ((u + v) / 2) (by omega) (by omega)]
theorem getD_at {α : Type} (u : List α) (l v : List α) (x0 : α) (k : Nat) (h : k < l.length) {i : Nat} (hi : i = u.length + k) : (u ++ l ++ v)[i]? = some (l.getD k x0) := by
  rw [hi, List.append_assoc, List.getElem?_append_right (by omega), List.getElem?_append_left (by omega), List.getD_eq_getElem?_getD, show u.length + k - u.length = k by omega, List.getElem?_eq_getElem h]
  rfl
theorem getD_cells (P L S : List Mem) (x0 : Mem) (k : Nat) (h : k < L.length) {i : Nat} (hi : i = P.length + k) {cs : List (List D)} (hcs : cs = (P ++ L ++ S).map mD) : cs[i]? = some (mD (L.getD k x0)) := by
  rw [hcs, List.getElem?_map, getD_at P L S x0 k h hi]
  rfl
set_option maxHeartbeats 8000000 in
theorem symOne (b cap n pl : Nat) (x : Mem) (P R S : List Mem) (σ : St) (hown1 : σ.own b = some (.arr 45 7 cap ((P ++ x :: R ++ S).map mD))) (ha : pl = P.length) (hn : n = (P ++ x :: R ++ S).length) (hmax : n ≤ 140737488355328) (sR : Sorted R) :
    Tri Tryd.prog 73 [.arr b 7 cap 0 n, .i pl, .i (pl + 1), .i (pl + 1 + R.length), .fn (.func 43) [] []] σ (SortR b cap P (x :: R) S σ) := by
  obtain ⟨el, hel⟩ : ∃ el, el = R.length := ⟨_, rfl⟩
  rw [← hel]
  have HA := Lib.hid ha
  have HEL := Lib.hid hel
  obtain ⟨cs, hcs⟩ : ∃ cs, cs = (P ++ x :: R ++ S).map mD := ⟨_, rfl⟩
  rw [← hcs] at hown1
  have g1 : cs[pl]? = some (mD x) := by rw [hcs, ha]; simp
  have G := Lib.hid (fun k (hk : k < el) => getD_cells (P ++ [x]) R S x k (by omega) (i := pl + 1 + k) (by rw [ha]; simp) (cs := cs) (by rw [hcs]; simp))
  have HC := Lib.hid hcs
  simp only [List.length_append, List.length_cons, ← ha, ← hel] at hn
  have HN := Lib.hid hn
  have hwa : IntKind.i64.wrap ((pl : Int) + 1 - pl) = 1 := by rw [wrap_i64 _ (by omega) (by omega)]; omega
  have hpn : (pl : Int) < n := by omega
  have hpn' : pl < n := by omega
  clear ha hn hel hcs
  refine tri_fn Tryd.func73 rfl Tryd.ntmps73 Tryd.results73 (Nat.le_of_ble_eq_true rfl) ?_
  refine' wlk0
  refine awp_loopM [10, 11, 12, 31, 32, 33, 34, 35, 36, 37, 38, 39, 40, 41, 42, 43, 44, 45, 46, 47, 48, 49, 50, 51, 52, 53] (fun X τ => ∃ i j : Nat, X 10 = .i (pl + 1 + i) ∧ X 11 = .i (pl + 1 + j) ∧ i ≤ j ∧ j ≤ el ∧ (∀ k, k < i → klt (R.getD k x) x = true) ∧ (∀ k, j ≤ k → k < el → klt (R.getD k x) x = false) ∧ τ = σ) (fun X _ => (X 11).int.toNat - (X 10).int.toNat) ?_ ?_
  · refine .same ⟨mix_self _ _, 0, el, ?_, ?_, by omega, by omega, fun k hk => by omega, fun k h1 h2 => by omega, rfl⟩
    · simp [*]
    · simp [*]
  · rintro X τ ⟨i, j, h10, h11, hij, hj, hl, hr, rfl⟩ _ hL
    have HLL := Lib.hid hl
    have HRR := Lib.hid hr
    clear hl hr
    by_cases hlt : i < j
    · have hlt' : (pl : Int) + 1 + i < pl + 1 + j := by omega
      obtain ⟨h, hh⟩ : ∃ h, h = (i + j) / 2 := ⟨_, rfl⟩
      have hhalf : IntKind.i64.wrap ((IntKind.u64.wrap (IntKind.i64.wrap ((pl : Int) + 1 + i + (pl + 1 + j)))).fdiv (2 ^ min 1 IntKind.u64.bits)) = (pl : Int) + 1 + h := by
        rw [half _ _ (by omega) (by have := HN.out; omega)]
        omega
      have hhalf2 := hhalf
      rw [wrap_i64 ((pl : Int) + 1 + i + (pl + 1 + j)) (by omega) (by have := HN.out; omega)] at hhalf2
      have hhi : i ≤ h := by omega
      have hhj : h < j := by omega
      have g2 := G.out h (by omega)
      have htn : ((pl : Int) + 1 + h).toNat = pl + 1 + h := by omega
      have hnn : (0 : Int) ≤ (pl : Int) + 1 + h := by omega
      have hln : (pl : Int) + 1 + h < n := by have := HN.out; omega
      clear hh
      have CM := Lib.hid (cmp1T (R.getD h x) x)
      have CN := Lib.hid (cmp_neg (R.getD h x) x)
      obtain ⟨y, hy⟩ : ∃ y, y = R.getD h x := ⟨_, rfl⟩
      rw [← hy] at CM CN g2
      have HY := Lib.hid hy
      clear hy
      obtain ⟨c, hc⟩ : ∃ c, c = cmpB y.1 x.1 := ⟨_, rfl⟩
      rw [← hc] at CM CN
      clear hc
      by_cases hc0 : c < 0
      · have hk := CN.out.1 hc0
        refine' wlk0
        (refine awp_draw (fun KS EG hK hP => ?_); refine draw_rule rfl [(0, true), (1, true), (2, true), (3, true), (4, false), (5, true), (6, true), (7, true), (8, false), (9, false), (10, true)] [] [] (by kernel_rfl) ?_; refine' dqs1 CM.out)
        refine' wlk0
        refine hL.out _ _ (.same ⟨mixT, ⟨h + 1, j, ?_, ?_, by omega, hj, fun k hk2 => ?_, HRR.out, rfl⟩, ?_⟩)
        · simp [*]
          try (rw [wrap_i64 _ (by omega) (by omega)])
          try omega
        · simp [*]
        · exact klt_of_le_lt (sorted_at sR x (by omega : k ≤ h) (by have := HEL.out; omega)) (by rw [← HY.out]; exact hk)
        · simp [*, D.int]
          try (rw [wrap_i64 _ (by omega) (by omega)])
          omega
      · have hk : klt y x = false := by
          cases hq : klt y x with
          | false => rfl
          | true => exact absurd (CN.out.2 hq) hc0
        refine' wlk0
        (refine awp_draw (fun KS EG hK hP => ?_); refine draw_rule rfl [(0, true), (1, true), (2, true), (3, true), (4, false), (5, true), (6, true), (7, true), (8, false), (9, false), (10, true)] [] [] (by kernel_rfl) ?_; refine' dqs1 CM.out)
        refine' wlk0
        refine hL.out _ _ (.same ⟨mixT, ⟨i, h, ?_, ?_, hhi, by omega, HLL.out, fun k hk1 hk2 => ?_, rfl⟩, ?_⟩)
        · simp [*]
        · simp [*]
        · exact kle_trans (show kle x (R.getD h x) by rw [← HY.out]; exact hk) (sorted_at sR x hk1 (by have := HEL.out; omega))
        · simp [*, D.int]; omega
    · have hlt' : ¬ (pl : Int) + 1 + i < pl + 1 + j := by omega
      have hij' : i = j := by omega
      subst hij'
      have hw1 : IntKind.i64.wrap ((pl : Int) + 1 + i - 1) = (pl : Int) + i := by rw [wrap_i64 _ (by have := HN.out; omega) (by have := HN.out; omega)]; omega
      refine' wlk0
      clear hL
      refine awp_loopM [13, 55, 56, 57, 58, 59, 60, 61, 62, 63, 64, 65, 66, 67, 68, 69, 70, 71, 72, 73, 74, 75, 76] (fun X τ' => ∃ (u : Nat) (Ra Rb : List Mem), X 13 = .i (pl + u) ∧ R.take i = Ra ++ Rb ∧ u = Ra.length ∧ τ' = τ.set b (some (.arr 45 7 cap ((P ++ Ra ++ x :: Rb ++ R.drop i ++ S).map mD)))) (fun X _ => pl + i - (X 13).int.toNat) ?_ ?_
      · refine .same ⟨mix_self _ _, 0, [], R.take i, ?_, rfl, rfl, ?_⟩
        · simp [*]
        · rw [set_same]
          rw [hown1, HC.out]
          simp
      · rintro X2 τ2 ⟨u, Ra, Rb, h13, hr, hu, rfl⟩ _ hL
        have hil : (R.take i).length = i := by rw [List.length_take]; have := HEL.out; omega
        have hri := congrArg List.length hr
        rw [hil, List.length_append] at hri
        rcases Rb with _ | ⟨y, Rb⟩
        · have hex : ¬ ((pl : Int) + u < pl + i) := by simp at hri; omega
          obtain ⟨ds, hds⟩ : ∃ ds, ds = (P ++ Ra ++ x :: [] ++ R.drop i ++ S).map mD := ⟨_, rfl⟩
          rw [← hds]
          have hra : R.take i = Ra := by rw [hr, List.append_nil]
          have hlow : ∀ z ∈ Ra, klt z x = true := fun z hz => by
            rw [← hra] at hz
            obtain ⟨k, hk1, hk2, rfl⟩ := mem_take_at x hz
            exact HLL.out k hk1
          have hup : ∀ z ∈ R.drop i, kle x z := fun z hz => by
            obtain ⟨k, hk1, hk2, rfl⟩ := mem_drop_at x hz
            exact HRR.out k hk1 (by have := HEL.out; omega)
          have HR := Lib.hid (show SortR b cap P (x :: R) S τ (.tup []) (τ.set b (some (.arr 45 7 cap ds))) from ⟨Ra ++ x :: R.drop i, ⟨by
              have h1 := (StPerm.swap (l := [x]) (r := Ra) fun a ha c hc => by rw [List.mem_singleton.1 ha]; exact hlow c hc).append (StPerm.refl (R.drop i))
              rw [← hra] at h1 ⊢
              have e := List.take_append_drop i R
              simp only [List.append_assoc, e] at h1
              simpa using h1, by
              have h2 : Sorted (Ra ++ R.drop i) := by rw [← hra, List.take_append_drop]; exact sR
              obtain ⟨s1, s2, s3⟩ := sorted_append.1 h2
              refine sorted_append.2 ⟨s1, List.pairwise_cons.2 ⟨hup, s2⟩, fun z hz w hw => ?_⟩
              rcases List.mem_cons.1 hw with rfl | hw
              · exact kle_of_lt (hlow z hz)
              · exact s3 z hz w hw⟩, rfl, by rw [hds]; simp⟩)
          clear hr hu hil hri hds hra hlow hup
          refine' wlk0
          ((try simp [*]); (try simp (discharger := omega) only [wrap_i64, dec_t, dec_f]))
          exact .same HR.out
        · have hex : (pl : Int) + u < pl + i := by simp at hri; omega
          obtain ⟨ds, hds⟩ : ∃ ds, ds = (P ++ Ra ++ x :: (y :: Rb) ++ R.drop i ++ S).map mD := ⟨_, rfl⟩
          rw [← hds]
          obtain ⟨v, hv⟩ : ∃ v, v = pl + u := ⟨_, rfl⟩
          have hv' : (pl : Int) + u = v := by omega
          have e1 : ds = (P ++ Ra).map mD ++ mD x :: (y :: Rb ++ R.drop i ++ S).map mD := by rw [hds]; simp
          have k1 : ds[v]? = some (mD x) := by rw [e1]; exact get_at' _ _ _ (by simp; have := HA.out; omega)
          have e2 : ds = (P ++ Ra ++ [x]).map mD ++ mD y :: (Rb ++ R.drop i ++ S).map mD := by rw [hds]; simp
          have k2 : ds[v + 1]? = some (mD y) := by rw [e2]; exact get_at' _ _ _ (by simp; have := HA.out; omega)
          have e3 : ds.set v (mD y) = (P ++ Ra ++ [y]).map mD ++ mD y :: (Rb ++ R.drop i ++ S).map mD := by rw [e1, set_at' _ _ _ _ (by simp; have := HA.out; omega)]; simp
          have hs : (ds.set v (mD y)).set (v + 1) (mD x) = (P ++ (Ra ++ [y]) ++ x :: Rb ++ R.drop i ++ S).map mD := by
            rw [e3, set_at' _ _ _ _ (by simp; have := HA.out; omega)]
            simp
          have hvn : v + 1 < n := by have := HN.out; simp at hri; omega
          have hvn1 : (v : Int) + 1 < n := by omega
          have hvn2 : (v : Int) < n := by omega
          have hvw : IntKind.i64.wrap ((v : Int) + 1) = (v : Int) + 1 := wrap_i64 _ (by omega) (by omega)
          have hvt : ((v : Int) + 1).toNat = v + 1 := by omega
          have hvz : (0 : Int) ≤ (v : Int) + 1 := by omega
          rw [hv'] at h13 hex
          have HS := Lib.hid hs
          have HU := Lib.hid hu
          have HR := Lib.hid hr
          have HV := Lib.hid hv'
          have HRI := Lib.hid hri
          clear e1 e2 e3 hs hds hu hr hv hv' hil hri
          refine' wlk0
          (refine awp_draw (fun KS EG hK hP => ?_); refine draw_rule rfl [(0, true), (1, true), (2, true), (3, true), (4, true), (5, true), (6, true), (7, true), (8, true), (9, false), (10, true), (11, true), (12, true), (13, false), (14, true), (16, true)] [] [15, 17] (by kernel_rfl) ?_; refine' dqs0)
          refine' wlk0
          rw [HS.out]
          refine hL.out _ _ (.same ⟨mixT, ⟨u + 1, Ra ++ [y], Rb, ?_, by rw [HR.out]; simp, by rw [HU.out]; simp, rfl⟩, ?_⟩)
          · simp [*]
            have := HV.out
            try omega
          · have := HV.out
            have := HRI.out
            simp [*, D.int]
            have := HU.out
            omega
set_option maxHeartbeats 8000000 in
theorem symLast (b cap n pl : Nat) (x : Mem) (P L S : List Mem) (σ : St) (hown1 : σ.own b = some (.arr 45 7 cap ((P ++ L ++ x :: S).map mD))) (ha : pl = P.length) (hn : n = (P ++ L ++ x :: S).length) (hmax : n ≤ 140737488355328) (hL2 : 2 ≤ L.length) (sL : Sorted L) :
    Tri Tryd.prog 73 [.arr b 7 cap 0 n, .i pl, .i (pl + L.length), .i (pl + L.length + 1), .fn (.func 43) [] []] σ (SortR b cap P (L ++ [x]) S σ) := by
  obtain ⟨el, hel⟩ : ∃ el, el = L.length := ⟨_, rfl⟩
  rw [← hel] at hL2 ⊢
  have HA := Lib.hid ha
  have HEL := Lib.hid hel
  obtain ⟨cs, hcs⟩ : ∃ cs, cs = (P ++ L ++ x :: S).map mD := ⟨_, rfl⟩
  rw [← hcs] at hown1
  have g1 : cs[pl + el]? = some (mD x) := by rw [hcs, ha, hel]; simp
  have G := Lib.hid (fun k (hk : k < el) => getD_cells P L (x :: S) x k (by omega) (i := pl + k) (by rw [ha]) (cs := cs) (by rw [hcs]))
  have HC := Lib.hid hcs
  simp only [List.length_append, List.length_cons, ← ha, ← hel] at hn
  have HN := Lib.hid hn
  have hwa : IntKind.i64.wrap ((pl : Int) + el - pl) = el := by rw [wrap_i64 _ (by omega) (by omega)]; omega
  have hwb : IntKind.i64.wrap ((pl : Int) + el + 1 - (pl + el)) = 1 := by rw [wrap_i64 _ (by omega) (by omega)]; omega
  have hel1 : ¬ (el : Int) = 1 := by omega
  have hpn : (pl : Int) + el < n := by omega
  have hpz : (0 : Int) ≤ (pl : Int) + el := by omega
  have hpt : ((pl : Int) + el).toNat = pl + el := by omega
  clear ha hn hel hcs
  refine tri_fn Tryd.func73 rfl Tryd.ntmps73 Tryd.results73 (Nat.le_of_ble_eq_true rfl) ?_
  refine' wlk0
  refine awp_loopM [14, 15, 16, 83, 84, 85, 86, 87, 88, 89, 90, 91, 92, 93, 94, 95, 96, 97, 98, 99, 100, 101, 102, 103, 104, 105, 106] (fun X τ => ∃ i j : Nat, X 14 = .i (pl + i) ∧ X 15 = .i (pl + j) ∧ i ≤ j ∧ j ≤ el ∧ (∀ k, k < i → klt x (L.getD k x) = false) ∧ (∀ k, j ≤ k → k < el → klt x (L.getD k x) = true) ∧ τ = σ) (fun X _ => (X 15).int.toNat - (X 14).int.toNat) ?_ ?_
  · refine .same ⟨mix_self _ _, 0, el, ?_, ?_, by omega, by omega, fun k hk => by omega, fun k h1 h2 => by omega, rfl⟩
    · simp [*]
    · simp [*]
  · rintro X τ ⟨i, j, h10, h11, hij, hj, hl, hr, rfl⟩ _ hL
    have HLL := Lib.hid hl
    have HRR := Lib.hid hr
    clear hl hr
    by_cases hlt : i < j
    · have hlt' : (pl : Int) + i < pl + j := by omega
      obtain ⟨h, hh⟩ : ∃ h, h = (pl + i + (pl + j)) / 2 - pl := ⟨_, rfl⟩
      have hhalf : IntKind.i64.wrap ((IntKind.u64.wrap (IntKind.i64.wrap ((pl : Int) + i + (pl + j)))).fdiv (2 ^ min 1 IntKind.u64.bits)) = (pl : Int) + h := by
        rw [half _ _ (by omega) (by have := HN.out; omega)]
        omega
      have hhalf2 := hhalf
      rw [wrap_i64 ((pl : Int) + i + (pl + j)) (by omega) (by have := HN.out; omega)] at hhalf2
      have hhi : i ≤ h := by omega
      have hhj : h < j := by omega
      have g2 := G.out h (by omega)
      have htn : ((pl : Int) + h).toNat = pl + h := by omega
      have hnn : (0 : Int) ≤ (pl : Int) + h := by omega
      have hln : (pl : Int) + h < n := by have := HN.out; omega
      clear hh
      have CM := Lib.hid (cmp1T x (L.getD h x))
      have CN := Lib.hid (cmp_neg x (L.getD h x))
      obtain ⟨y, hy⟩ : ∃ y, y = L.getD h x := ⟨_, rfl⟩
      rw [← hy] at CM CN g2
      have HY := Lib.hid hy
      clear hy
      obtain ⟨c, hc⟩ : ∃ c, c = cmpB x.1 y.1 := ⟨_, rfl⟩
      rw [← hc] at CM CN
      clear hc
      by_cases hc0 : c < 0
      · have hk := CN.out.1 hc0
        refine' wlk0
        (refine awp_draw (fun KS EG hK hP => ?_); refine draw_rule rfl [(0, true), (1, true), (2, true), (3, true), (4, false), (5, true), (6, true), (7, true), (8, false), (9, false), (10, true), (11, true)] [] [] (by kernel_rfl) ?_; refine' dqs1 CM.out)
        refine' wlk0
        refine hL.out _ _ (.same ⟨mixT, ⟨i, h, ?_, ?_, hhi, by omega, HLL.out, fun k hk1 hk2 => ?_, rfl⟩, ?_⟩)
        · simp [*]
        · simp [*]
        · exact klt_of_lt_le (show klt x (L.getD h x) = true by rw [← HY.out]; exact hk) (sorted_at sL x hk1 (by have := HEL.out; omega))
        · simp [*, D.int]; omega
      · have hk : klt x y = false := by
          cases hq : klt x y with
          | false => rfl
          | true => exact absurd (CN.out.2 hq) hc0
        refine' wlk0
        (refine awp_draw (fun KS EG hK hP => ?_); refine draw_rule rfl [(0, true), (1, true), (2, true), (3, true), (4, false), (5, true), (6, true), (7, true), (8, false), (9, false), (10, true), (11, true)] [] [] (by kernel_rfl) ?_; refine' dqs1 CM.out)
        refine' wlk0
        refine hL.out _ _ (.same ⟨mixT, ⟨h + 1, j, ?_, ?_, by omega, hj, fun k hk2 => ?_, HRR.out, rfl⟩, ?_⟩)
        · simp [*]
          try (rw [wrap_i64 _ (by omega) (by omega)])
          try omega
        · simp [*]
        · exact kle_trans (sorted_at sL x (by omega : k ≤ h) (by have := HEL.out; omega)) (show kle (L.getD h x) x by rw [← HY.out]; exact hk)
        · simp [*, D.int]
          try (rw [wrap_i64 _ (by omega) (by omega)])
          omega
    · have hlt' : ¬ (pl : Int) + i < pl + j := by omega
      have hij' : i = j := by omega
      subst hij'
      refine' wlk0
      clear hL
      refine awp_loopM [17, 108, 109, 110, 111, 112, 113, 114, 115, 116, 117, 118, 119, 120, 121, 122, 123, 124, 125, 126, 127, 128] (fun X τ' => ∃ (u : Nat) (Ra Rb : List Mem), X 17 = .i (pl + i + u) ∧ L.drop i = Ra ++ Rb ∧ u = Ra.length ∧ τ' = τ.set b (some (.arr 45 7 cap ((P ++ L.take i ++ Ra ++ x :: Rb ++ S).map mD)))) (fun X _ => (X 17).int.toNat) ?_ ?_
      · refine .same ⟨mix_self _ _, el - i, L.drop i, [], ?_, by simp, by rw [List.length_drop, HEL.out], ?_⟩
        · simp [*]
          omega
        · rw [set_same]
          rw [hown1, HC.out]
          simp
      · rintro X2 τ2 ⟨u, Ra, Rb, h13, hr, hu, rfl⟩ _ hL
        have hil : (L.take i).length = i := by rw [List.length_take]; have := HEL.out; omega
        have hdl : (L.drop i).length = el - i := by rw [List.length_drop, HEL.out]
        have hri := congrArg List.length hr
        rw [hdl, List.length_append] at hri
        rcases List.eq_nil_or_concat Ra with rfl | ⟨Ra, y, rfl⟩
        · have hu0 : u = 0 := by simpa using hu
          subst hu0
          have hex : ¬ ((pl : Int) + i < pl + i) := by omega
          obtain ⟨ds, hds⟩ : ∃ ds, ds = (P ++ L.take i ++ [] ++ x :: Rb ++ S).map mD := ⟨_, rfl⟩
          rw [← hds]
          have hra : L.drop i = Rb := by rw [hr, List.nil_append]
          have hlow : ∀ z ∈ L.take i, kle z x := fun z hz => by
            obtain ⟨k, hk1, hk2, rfl⟩ := mem_take_at x hz
            exact HLL.out k hk1
          have hup : ∀ z ∈ Rb, klt x z = true := fun z hz => by
            rw [← hra] at hz
            obtain ⟨k, hk1, hk2, rfl⟩ := mem_drop_at x hz
            exact HRR.out k hk1 (by have := HEL.out; omega)
          have HR := Lib.hid (show SortR b cap P (L ++ [x]) S τ (.tup []) (τ.set b (some (.arr 45 7 cap ds))) from ⟨L.take i ++ x :: Rb, ⟨by
              have h1 := (StPerm.refl (L.take i)).append (StPerm.swap (l := Rb) (r := [x]) fun a ha c hc => by rw [List.mem_singleton.1 hc]; exact hup a ha)
              rw [← hra] at h1 ⊢
              have e := List.take_append_drop i L
              rw [← List.append_assoc, e] at h1
              simpa using h1, by
              have h2 : Sorted (L.take i ++ Rb) := by rw [← hra, List.take_append_drop]; exact sL
              obtain ⟨s1, s2, s3⟩ := sorted_append.1 h2
              refine sorted_append.2 ⟨s1, List.pairwise_cons.2 ⟨fun z hz => kle_of_lt (hup z hz), s2⟩, fun z hz w hw => ?_⟩
              rcases List.mem_cons.1 hw with rfl | hw
              · exact hlow z hz
              · exact s3 z hz w hw⟩, rfl, by rw [hds]; simp⟩)
          clear hr hu hil hri hds hra hlow hup hdl
          refine' wlk0
          ((try simp [*]); (try simp (discharger := omega) only [wrap_i64, dec_t, dec_f]))
          exact .same HR.out
        · rw [List.concat_eq_append] at *
          obtain ⟨v, hv⟩ : ∃ v, v = pl + i + Ra.length := ⟨_, rfl⟩
          have hv' : (pl : Int) + i + u = (v : Int) + 1 := by simp at hu; omega
          obtain ⟨ds, hds⟩ : ∃ ds, ds = (P ++ L.take i ++ (Ra ++ [y]) ++ x :: Rb ++ S).map mD := ⟨_, rfl⟩
          rw [← hds]
          have e1 : ds = (P ++ L.take i ++ Ra).map mD ++ mD y :: (x :: Rb ++ S).map mD := by rw [hds]; simp
          have k1 : ds[v]? = some (mD y) := by rw [e1]; exact get_at' _ _ _ (by simp; have := HA.out; have := HEL.out; omega)
          have e2 : ds = (P ++ L.take i ++ Ra ++ [y]).map mD ++ mD x :: (Rb ++ S).map mD := by rw [hds]; simp
          have k2 : ds[v + 1]? = some (mD x) := by rw [e2]; exact get_at' _ _ _ (by simp; have := HA.out; have := HEL.out; omega)
          have e3 : ds.set (v + 1) (mD y) = (P ++ L.take i ++ Ra).map mD ++ mD y :: (y :: Rb ++ S).map mD := by rw [e2, set_at' _ _ _ _ (by simp; have := HA.out; have := HEL.out; omega)]; simp
          have hs : (ds.set (v + 1) (mD y)).set v (mD x) = (P ++ L.take i ++ Ra ++ x :: (y :: Rb) ++ S).map mD := by
            rw [e3, set_at' _ _ _ _ (by simp; have := HA.out; have := HEL.out; omega)]
            simp
          have hvn : v + 1 < n := by have := HN.out; simp at hri; omega
          have hvn1 : (v : Int) + 1 < n := by omega
          have hvn2 : (v : Int) < n := by omega
          have hvw : IntKind.i64.wrap ((v : Int) + 1 - 1) = (v : Int) := by rw [wrap_i64 _ (by omega) (by omega)]; omega
          have hvt : ((v : Int) + 1).toNat = v + 1 := by omega
          have hvz : (0 : Int) ≤ (v : Int) + 1 := by omega
          have hex : (pl : Int) + i < (v : Int) + 1 := by omega
          rw [hv'] at h13
          have HS := Lib.hid hs
          have HU := Lib.hid hu
          have HR := Lib.hid hr
          have HV := Lib.hid hv
          have HRI := Lib.hid hri
          clear e1 e2 e3 hs hds hu hr hv hv' hil hri hdl
          refine' wlk0
          (refine awp_draw (fun KS EG hK hP => ?_); refine draw_rule rfl [(0, true), (1, true), (2, true), (3, true), (4, true), (5, true), (6, true), (7, true), (8, true), (9, false), (10, true), (11, true), (12, true), (13, false), (14, true), (16, true)] [] [15, 17] (by kernel_rfl) ?_; refine' dqs0)
          refine' wlk0
          rw [HS.out]
          refine hL.out _ _ (.same ⟨mixT, ⟨Ra.length, Ra, y :: Rb, ?_, by rw [HR.out]; simp, rfl, rfl⟩, ?_⟩)
          · simp [*]
            have := HV.out
            omega
          · simp [*, D.int]
end Go.Proofs.YtmjendeigjdihaaDoor
/-
  A stable sort (chapter 1): two sorted pieces beside each other are made one.
-/
namespace Go.Proofs.YtmjendeigjdihaaDoor
open Go.RowKit
set_option maxRecDepth 100000
set_option linter.unusedVariables false
set_option linter.unusedSimpArgs false
attribute [local irreducible] awp aops aop aput aseq ablock TriX Tri Ret Fresh dq adraw dtail dals dfin Wk

theorem awp_st {P : Program} {n : Nat} {c : Code} {K : AEx → Fr → St → Prop} {F : Fr} {σ τ : St} (h : σ = τ) (k : awp P n c K F τ) : awp P n c K F σ := h ▸ k
/-- A piece of a list is sorted; its cells by a name. -/
def SortQ (b cap : Nat) (P L S : List Mem) (σ : St) (d : D) (τ : St) : Prop := ∃ cs M, Hid (StPerm L M ∧ Sorted M ∧ cs = (P ++ M ++ S).map mD) ∧ d = .tup [] ∧ τ = σ.set b (some (.arr 45 7 cap cs))
theorem SortR.q {b cap : Nat} {P L S : List Mem} {σ : St} {d : D} {τ : St} (h : SortR b cap P L S σ d τ) : SortQ b cap P L S σ d τ := by
  obtain ⟨M, ⟨h1, h2⟩, h3, h4⟩ := h
  exact ⟨_, M, Lib.hid ⟨h1, h2, rfl⟩, h3, h4⟩
/-- What is told of two sorted pieces beside each other. -/
def SymSays (b cap n : Nat) (P L R S : List Mem) (σ : St) : Prop := ∀ pl ml el : Nat, σ.own b = some (.arr 45 7 cap ((P ++ L ++ R ++ S).map mD)) → pl = P.length → ml = pl + L.length → el = ml + R.length → n = (P ++ L ++ R ++ S).length →
  Tri Tryd.prog 73 [.arr b 7 cap 0 n, .i pl, .i ml, .i el, .fn (.func 43) [] []] σ (SortR b cap P (L ++ R) S σ)
set_option maxHeartbeats 16000000 in
theorem symGen (b cap n : Nat) (x : Mem) (P L R S : List Mem) (σ : St) (hmax : n ≤ 140737488355328) (hL2 : 2 ≤ L.length) (hR2 : 2 ≤ R.length) (sL : Sorted L) (sR : Sorted R)
    (IH : Hid (∀ P' L' R' S' σ', L' ≠ [] → R' ≠ [] → Sorted L' → Sorted R' → L'.length + R'.length < L.length + R.length → SymSays b cap n P' L' R' S' σ')) : SymSays b cap n P L R S σ := by
  intro pl ml el hown1 ha hm he hn
  obtain ⟨cs, hcs⟩ : ∃ cs, cs = (P ++ L ++ R ++ S).map mD := ⟨_, rfl⟩
  rw [← hcs] at hown1
  have GL := Lib.hid (fun k (hk : k < L.length) (i : Nat) (hi : i = pl + k) => getD_cells P L (R ++ S) x k hk (i := i) (by omega) (cs := cs) (by rw [hcs]; simp))
  have GR := Lib.hid (fun k (hk : k < R.length) (i : Nat) (hi : i = ml + k) => getD_cells (P ++ L) R S x k hk (i := i) (by simp; omega) (cs := cs) (by rw [hcs]))
  have HC := Lib.hid hcs
  simp only [List.length_append, ← ha] at hn
  have HALL := Lib.hid (And.intro ha (And.intro hm (And.intro he (And.intro hn (And.intro hL2 hR2)))))
  have hwa : IntKind.i64.wrap ((ml : Int) - pl) = (ml : Int) - pl := wrap_i64 _ (by omega) (by omega)
  have hwb : IntKind.i64.wrap ((el : Int) - ml) = (el : Int) - ml := wrap_i64 _ (by omega) (by omega)
  have hx1 : ¬ (ml : Int) - pl = 1 := by omega
  have hx2 : ¬ (el : Int) - ml = 1 := by omega
  obtain ⟨mid, hmid⟩ : ∃ mid, mid = (pl + el) / 2 := ⟨_, rfl⟩
  have hhalf : IntKind.i64.wrap ((IntKind.u64.wrap (IntKind.i64.wrap ((pl : Int) + el))).fdiv (2 ^ min 1 IntKind.u64.bits)) = (mid : Int) := by
    rw [half _ _ (by omega) (by omega)]
    omega
  have hhalf2 := hhalf
  rw [wrap_i64 ((pl : Int) + el) (by omega) (by omega)] at hhalf2
  have hwn : IntKind.i64.wrap ((mid : Int) + ml) = (mid : Int) + ml := wrap_i64 _ (by omega) (by omega)
  have hwe : IntKind.i64.wrap ((mid : Int) + ml - el) = (mid : Int) + ml - el := wrap_i64 _ (by omega) (by omega)
  have hwp : IntKind.i64.wrap ((mid : Int) + ml - 1) = (mid : Int) + ml - 1 := wrap_i64 _ (by omega) (by omega)
  have HMID := Lib.hid hmid
  clear ha hm he hn hL2 hR2 hcs hmid
  refine tri_fn Tryd.func73 rfl Tryd.ntmps73 Tryd.results73 (Nat.le_of_ble_eq_true rfl) ?_
  refine' wlk0
  have REST : ∀ (F' : Fr) (lo hi : Nat), F' 0 = .arr b 7 cap 0 n → F' 1 = .i pl → F' 2 = .i ml → F' 3 = .i el → F' 4 = .fn (.func 43) [] [] → F' 18 = .i mid → F' 19 = .i (mid + ml) → F' 20 = .i lo → F' 21 = .i hi →
      pl ≤ lo → lo ≤ hi → hi ≤ ml → hi ≤ mid → mid + ml ≤ lo + el → (hi = mid ∨ hi = ml) → (lo = pl ∨ lo + el = mid + ml) → KS F' σ := by
    intro F' lo hi h0 h1 h2 h3 h4 h18 h19 h20 h21 l1 l2 l3 l4 l5 l6 l7
    have HLO := Lib.hid (And.intro l1 (And.intro l2 (And.intro l3 (And.intro l4 (And.intro l5 (And.intro l6 l7))))))
    clear l1 l2 l3 l4 l5 l6 l7
    refine hK.out _ _ ?_
    clear hK
    refine' wlk0
    refine awp_loopM [20, 21, 23, 149, 150, 151, 152, 153, 154, 155, 156, 157, 158, 159, 160, 161, 162, 163, 164, 165, 166, 167, 168, 169, 170, 171, 172, 173, 174] (fun X τ => ∃ s r : Nat, X 20 = .i s ∧ X 21 = .i r ∧ lo ≤ s ∧ s ≤ r ∧ r ≤ hi ∧ (∀ c, lo ≤ c → c < s → klt (R.getD (mid - 1 - c) x) (L.getD (c - pl) x) = false) ∧ (∀ c, r ≤ c → c < hi → klt (R.getD (mid - 1 - c) x) (L.getD (c - pl) x) = true) ∧ τ = σ) (fun X _ => (X 21).int.toNat - (X 20).int.toNat) ?_ ?_
    · refine .same ⟨mix_self _ _, lo, hi, ?_, ?_, Nat.le_refl _, HLO.out.2.1, Nat.le_refl _, fun c h1 h2 => by omega, fun c h1 h2 => by omega, rfl⟩
      · simp [*]
      · simp [*]
    · rintro X τ ⟨s, r, h20', h21', hs1, hs2, hs3, hlow, hup, rfl⟩ _ hL
      have HLOW := Lib.hid hlow
      have HUP := Lib.hid hup
      clear hlow hup
      by_cases hlt : s < r
      · have hlt' : (s : Int) < r := by omega
        obtain ⟨c, hc⟩ : ∃ c, c = (s + r) / 2 := ⟨_, rfl⟩
        have hcb : pl ≤ c ∧ c < ml ∧ c < mid ∧ s ≤ c ∧ c < r ∧ mid - 1 - c < R.length ∧ c - pl < L.length ∧ ml < n ∧ el ≤ n := by
          have := HLO.out
          have := HALL.out
          omega
        obtain ⟨q1, q2, q3, q4, q5, q6, q7, q8, q9⟩ := hcb
        have hhalf3 : IntKind.i64.wrap ((IntKind.u64.wrap (IntKind.i64.wrap ((s : Int) + r))).fdiv (2 ^ min 1 IntKind.u64.bits)) = (c : Int) := by
          rw [half _ _ (by omega) (by omega)]
          omega
        have hhalf4 := hhalf3
        rw [wrap_i64 ((s : Int) + r) (by omega) (by omega)] at hhalf4
        obtain ⟨q, hq⟩ : ∃ q, q = ml + (mid - 1 - c) := ⟨_, rfl⟩
        have hqn : q < n := by have := HALL.out; omega
        have hwq : IntKind.i64.wrap ((mid : Int) + ml - 1 - c) = (q : Int) := by rw [wrap_i64 _ (by omega) (by omega)]; omega
        have k1 := GR.out _ q6 q hq
        have k2 := GL.out _ q7 c (by omega)
        have hcn : (c : Int) < n := by have := HALL.out; omega
        have hqn' : (q : Int) < n := by omega
        have HQ := Lib.hid hq
        clear hq hc
        have CM := Lib.hid (cmp1T (R.getD (mid - 1 - c) x) (L.getD (c - pl) x))
        have CN := Lib.hid (cmp_neg (R.getD (mid - 1 - c) x) (L.getD (c - pl) x))
        obtain ⟨y, hy⟩ : ∃ y, y = R.getD (mid - 1 - c) x := ⟨_, rfl⟩
        obtain ⟨z, hz⟩ : ∃ z, z = L.getD (c - pl) x := ⟨_, rfl⟩
        rw [← hy] at k1
        rw [← hz] at k2
        rw [← hy, ← hz] at CM CN
        have HY := Lib.hid hy
        have HZ := Lib.hid hz
        clear hy hz
        obtain ⟨w, hw⟩ : ∃ w, w = cmpB y.1 z.1 := ⟨_, rfl⟩
        rw [← hw] at CM CN
        clear hw
        by_cases hw0 : w < 0
        · have hk := CN.out.1 hw0
          refine' wlk0
          (refine awp_draw (fun KS EG hK hP => ?_); refine draw_rule rfl [(0, true), (1, true), (2, true), (3, true), (4, true), (5, true), (6, false), (7, true), (8, true), (9, true), (10, false), (11, false), (12, true), (13, true)] [] [] (by kernel_rfl) ?_; refine' dqs1 CM.out)
          refine' wlk0
          refine hL.out _ _ (.same ⟨mixT, ⟨s, c, ?_, ?_, hs1, q4, by omega, HLOW.out, fun c2 e1 e2 => ?_, rfl⟩, ?_⟩)
          · simp [*]
          · simp [*]
          · have := HLO.out
            have := HALL.out
            refine klt_of_lt_le (klt_of_le_lt (sorted_at sR x (show mid - 1 - c2 ≤ mid - 1 - c by omega) (by omega)) (show klt (R.getD (mid - 1 - c) x) (L.getD (c - pl) x) = true by rw [← HY.out, ← HZ.out]; exact hk)) (sorted_at sL x (by omega) (by omega))
          · simp [*, D.int]; omega
        · have hk : klt y z = false := by
            cases hq : klt y z with
            | false => rfl
            | true => exact absurd (CN.out.2 hq) hw0
          have hcw : IntKind.i64.wrap ((c : Int) + 1) = (c : Int) + 1 := wrap_i64 _ (by omega) (by omega)
          refine' wlk0
          (refine awp_draw (fun KS EG hK hP => ?_); refine draw_rule rfl [(0, true), (1, true), (2, true), (3, true), (4, true), (5, true), (6, false), (7, true), (8, true), (9, true), (10, false), (11, false), (12, true), (13, true)] [] [] (by kernel_rfl) ?_; refine' dqs1 CM.out)
          refine' wlk0
          refine hL.out _ _ (.same ⟨mixT, ⟨c + 1, r, ?_, ?_, by omega, by omega, hs3, fun c2 e1 e2 => ?_, HUP.out, rfl⟩, ?_⟩)
          · simp [*]
          · simp [*]
          · have := HLO.out
            have := HALL.out
            exact kle_trans (sorted_at sL x (by omega) (by omega)) (kle_trans (show kle (L.getD (c - pl) x) (R.getD (mid - 1 - c) x) by unfold kle; rw [← HY.out, ← HZ.out]; exact hk) (sorted_at sR x (show mid - 1 - c ≤ mid - 1 - c2 by omega) (by omega)))
          · simp [*, D.int]; omega
      · have hlt' : ¬ (s : Int) < r := by omega
        have hsr : s = r := by omega
        subst hsr
        have hen0 : s ≤ mid ∧ s ≤ ml ∧ pl ≤ s := by
          have := HLO.out
          omega
        obtain ⟨hsm, hsl, hps⟩ := hen0
        obtain ⟨hd1, hd2⟩ := sym_split sL sR x (s - pl) (mid - s)
          (fun e1 e2 e3 => by
            have h := HLO.out
            have h2 := HALL.out
            have := HUP.out s (Nat.le_refl _) (by omega)
            rwa [show mid - 1 - s = mid - s - 1 by omega] at this)
          (fun e1 e2 e3 => by
            have h := HLO.out
            have h2 := HALL.out
            have := HLOW.out (s - 1) (by omega) (by omega)
            rwa [show mid - 1 - (s - 1) = mid - s by omega, show s - 1 - pl = s - pl - 1 by omega] at this)
          (by have := HALL.out; omega) (by have := HALL.out; have := HLO.out; have := HMID.out; omega)
        have n1 : (L.take (s - pl)).length = s - pl := by rw [List.length_take]; have := HALL.out; omega
        have n2 : (L.drop (s - pl)).length = ml - s := by rw [List.length_drop]; have := HALL.out; omega
        have n3 : (R.take (mid - s)).length = mid - s := by rw [List.length_take]; have := HALL.out; have := HLO.out; omega
        obtain ⟨en, hen⟩ : ∃ en, en = mid + ml - s := ⟨_, rfl⟩
        have n4 : (R.drop (mid - s)).length = el - en := by rw [List.length_drop]; have := HALL.out; have := HLO.out; omega
        have eL := (List.take_append_drop (s - pl) L).symm
        have eR := (List.take_append_drop (mid - s) R).symm
        obtain ⟨L1, hL1⟩ : ∃ L1, L1 = L.take (s - pl) := ⟨_, rfl⟩
        obtain ⟨L2, hL2⟩ : ∃ L2, L2 = L.drop (s - pl) := ⟨_, rfl⟩
        obtain ⟨R1, hR1⟩ : ∃ R1, R1 = R.take (mid - s) := ⟨_, rfl⟩
        obtain ⟨R2, hR2⟩ : ∃ R2, R2 = R.drop (mid - s) := ⟨_, rfl⟩
        rw [← hL1] at n1 hd2 eL
        rw [← hL2] at n2 hd1 eL
        rw [← hR1] at n3 hd1 eR
        rw [← hR2] at n4 hd2 eR
        clear hL1 hL2 hR1 hR2 HLOW HUP GL GR hL
        replace n1 : L1.length + pl = s := by omega
        replace n2 : L2.length + s = ml := by omega
        replace n3 : R1.length + s = mid := by omega
        have henn : en + s = mid + ml := by omega
        have hee : en ≤ el ∧ ml ≤ en := by
          have := HLO.out
          omega
        replace n4 : R2.length + en = el := by omega
        clear hen
        obtain ⟨a1, a2, a3, a4, a5, a6⟩ := HALL.out
        have hlL : L.length = L1.length + L2.length := by rw [eL, List.length_append]
        have hlR : R.length = R1.length + R2.length := by rw [eR, List.length_append]
        obtain ⟨hee1, hee2⟩ := hee
        have hmm : pl < mid ∧ mid < el := by
          have := HMID.out
          omega
        obtain ⟨hmm1, hmm2⟩ := hmm
        have hwe2 : IntKind.i64.wrap ((mid : Int) + ml - s) = (en : Int) := by rw [wrap_i64 _ (by omega) (by omega)]; omega
        obtain ⟨cs3, hcs3⟩ : ∃ cs3, cs3 = (P ++ (L1 ++ R1) ++ (L2 ++ R2 ++ S)).map mD := ⟨_, rfl⟩
        have hsorted := sorted_append.1 (eL ▸ sL)
        have hsorted' := sorted_append.1 (eR ▸ sR)
        have RT0 : ((s : Int) < ml ∧ (s : Int) < mid) → ∀ f σ', σ'.own b = some (.arr 45 7 cap cs) → Tri Tryd.prog 76 [.arr b 7 cap 0 n, .i s, .i ml, .i en, f] σ' fun d τ => d = .tup [] ∧ τ = σ'.set b (some (.arr 45 7 cap cs3)) := by
          intro hq f σ' h
          have := rotT b cap n s ml en f (P ++ L1) L2 R1 (R2 ++ S) σ' (by rw [h, HC.out, eL, eR]; simp) (by simp; omega) (by simp; omega) (by simp; omega) (by simp; omega) hmax (List.length_pos_iff.1 (by omega)) (List.length_pos_iff.1 (by omega))
          rw [hcs3]
          simpa using this
        have IHL0 : ((pl : Int) < s ∧ (s : Int) < mid) → ∀ σ', σ'.own b = some (.arr 45 7 cap cs3) → Tri Tryd.prog 73 [.arr b 7 cap 0 n, .i pl, .i s, .i mid, .fn (.func 43) [] []] σ' (SortQ b cap P (L1 ++ R1) (L2 ++ R2 ++ S) σ') := by
          intro hq σ' h
          refine Tri.mono ?_ (fun d τ => SortR.q)
          exact IH.out P L1 R1 (L2 ++ R2 ++ S) σ' (List.length_pos_iff.1 (by omega)) (List.length_pos_iff.1 (by omega)) hsorted.1 hsorted'.1 (by omega) pl s mid (by rw [h, hcs3]; simp) (by omega) (by omega) (by omega) (by simp; omega)
        have IHR0 : ((s : Int) < ml ∧ (en : Int) < el) → ∀ cs4 M1 σ', Hid (StPerm (L1 ++ R1) M1 ∧ Sorted M1 ∧ cs4 = (P ++ M1 ++ (L2 ++ R2 ++ S)).map mD) → σ'.own b = some (.arr 45 7 cap cs4) → Tri Tryd.prog 73 [.arr b 7 cap 0 n, .i mid, .i en, .i el, .fn (.func 43) [] []] σ' (SortQ b cap (P ++ M1) (L2 ++ R2) S σ') := by
          intro hq cs4 M1 σ' hh h
          obtain ⟨q1, q2, q3⟩ := hh.out
          have hM := stperm_len q1
          simp only [List.length_append] at hM
          refine Tri.mono ?_ (fun d τ => SortR.q)
          exact IH.out (P ++ M1) L2 R2 S σ' (List.length_pos_iff.1 (by omega)) (List.length_pos_iff.1 (by omega)) hsorted.2.1 hsorted'.2.1 (by omega) mid en el (by rw [h, q3]; simp) (by simp; omega) (by omega) (by omega) (by simp; omega)
        have s1no : ¬ ((pl : Int) < s ∧ (s : Int) < mid) → StPerm (L1 ++ R1) (L1 ++ R1) ∧ Sorted (L1 ++ R1) ∧ cs3 = (P ++ (L1 ++ R1) ++ (L2 ++ R2 ++ S)).map mD := by
          intro hq
          refine ⟨.refl _, ?_, hcs3⟩
          rcases (show L1.length = 0 ∨ R1.length = 0 by omega) with h | h
          · rw [List.eq_nil_of_length_eq_zero h, List.nil_append]; exact hsorted'.1
          · rw [List.eq_nil_of_length_eq_zero h, List.append_nil]; exact hsorted.1
        have finR : ∀ cs4 M1 cs5 M2, Hid (StPerm (L1 ++ R1) M1 ∧ Sorted M1 ∧ cs4 = (P ++ M1 ++ (L2 ++ R2 ++ S)).map mD) → Hid (StPerm (L2 ++ R2) M2 ∧ Sorted M2 ∧ cs5 = (P ++ M1 ++ M2 ++ S).map mD) → SortR b cap P (L ++ R) S τ (.tup []) (τ.set b (some (.arr 45 7 cap cs5))) := by
          intro cs4 M1 cs5 M2 hh hh2
          obtain ⟨q1, q2, q3⟩ := hh.out
          obtain ⟨q4, q5, q6⟩ := hh2.out
          refine ⟨M1 ++ M2, ?_, rfl, by rw [q6]; simp⟩
          have := sym_join (eL ▸ sL) (eR ▸ sR) hd1 hd2 q1 q2 q4 q5
          rwa [← eL, ← eR] at this
        have finN : ¬ ((s : Int) < ml ∧ (en : Int) < el) → ∀ cs4 M1, Hid (StPerm (L1 ++ R1) M1 ∧ Sorted M1 ∧ cs4 = (P ++ M1 ++ (L2 ++ R2 ++ S)).map mD) → SortR b cap P (L ++ R) S τ (.tup []) (τ.set b (some (.arr 45 7 cap cs4))) := by
          rintro hq cs4 M1 h
          refine finR cs4 M1 cs4 (L2 ++ R2) h (Lib.hid ⟨.refl _, ?_, by rw [h.out.2.2]; simp⟩)
          rcases (show L2.length = 0 ∨ R2.length = 0 by omega) with h | h
          · rw [List.eq_nil_of_length_eq_zero h, List.nil_append]; exact hsorted'.2.1
          · rw [List.eq_nil_of_length_eq_zero h, List.append_nil]; exact hsorted.2.1
        have hσ3 : ¬ ((s : Int) < ml ∧ (s : Int) < mid) → τ = τ.set b (some (.arr 45 7 cap cs3)) := by
          intro hq
          rw [set_same]
          rw [hown1, HC.out, hcs3, eL, eR]
          rcases (show L2.length = 0 ∨ R1.length = 0 by omega) with h | h
          · rw [List.eq_nil_of_length_eq_zero h]; simp
          · rw [List.eq_nil_of_length_eq_zero h]; simp
        have c1 : ((s : Int) < ml) ↔ ((mid : Int) < en) := by omega
        have c2 : ((s : Int) < mid) ↔ ((ml : Int) < en) := by omega
        have RT := Lib.hid RT0
        have IHL := Lib.hid IHL0
        have IHR := Lib.hid IHR0
        have S1 := Lib.hid s1no
        have FR := Lib.hid finR
        have FN := Lib.hid finN
        have S3 := Lib.hid hσ3
        have C1 := Lib.hid c1
        have C2 := Lib.hid c2
        clear RT0 IHL0 IHR0 s1no finR finN hσ3 c1 c2 hd1 hd2 n1 n2 n3 n4 eL eR a1 a2 a3 a4 a5 a6 hlL hlR hee1 hee2 hmm1 hmm2 henn hcs3 hsorted hsorted' hsm hsl hps hs1 hs2 hs3
        have c1' := C1.out.symm
        have c2' := C2.out.symm
        by_cases qa : (s : Int) < ml
        · by_cases qb : (s : Int) < mid
          · by_cases qc : (pl : Int) < s
            · by_cases qd : (en : Int) < el
              · repeat (first | ((first | refine aops_cons (fun K9 hO => ?_) | (refine aops_guardT rfl ?_ (fun K9 hO => ?_); (focus (simp [*]; done)))); simp [*]; (try simp (discharger := omega) only [wrap_i64, dec_t, dec_f]); (first | ((try (first | refine .inl ⟨by omega, by omega, ?_⟩ | refine ⟨by omega, by omega, ?_⟩ | refine ⟨by omega, ?_⟩ | refine .inl ?_)); (first | (intro b; intros; (try have hneA := ne_own (b := b) hown1 (by assumption)); (try have hneB := ne_own (b := b) hown2 (by assumption)); (try have hneC := ne_own (b := b) hown3 (by assumption)); refine hO.out _ _ ?_) | refine hO.out _ _ ?_)) | ((first | refine Tri.call (RT.out ⟨qa, qb⟩ _ _ (by simp [*])) ?_ | refine Tri.call (IHL.out ⟨qc, qb⟩ _ (by simp [*])) ?_ | refine Tri.call (IHR.out ⟨qa, qd⟩ _ _ _ (by assumption) (by simp [*])) ?_); (first | rintro _ _ ⟨rfl, h9⟩; replace h9 := h9.symm; subst h9 | rintro _ _ ⟨_, rfl, rfl⟩ | rintro _ _ ⟨_, _, rfl, rfl⟩ | rintro _ _ ⟨_, _, _, rfl, rfl⟩); refine hO.out _ _ ?_)); clear hO; (try clear K9); (first | refine aput_some (by decide) ?_ | refine aput_none ?_)) | refine aops_nil ?_ | refine aseq_normal ?_ | refine aseq_ret ?_ | refine aseq_exit ?_ | refine ablock_normal ?_ | refine ablock_ret ?_ | refine ablock_same ?_ | refine ablock_other (by decide) ?_ | ((repeat ((fail_if_success (refine hK.out _ _ ?_)); clear hK; (try clear hP EG); (try clear KS))); refine hK.out _ _ ?_; clear hK; (try clear hP EG); try clear KS) | refine awp_seq (fun KS hK => ?_) | refine awp_region (fun KS EG hK hP => ?_) | refine awp_block ?_ | refine awp_skip ?_ | refine awp_ret ?_ | refine awp_exit ?_ | (refine awp_condT ?_ ?_; (focus (simp [*]; done))) | (refine awp_condF ?_ ?_; (focus (simp [*]; done))) | ((first | (refine aops_guardF rfl ?_ ?_; (focus (simp [*]; done))) | (refine aops_guardU rfl ?_ ?_; (focus (simp [*]; done)))); (first | refine aput_some (by decide) ?_ | refine aput_none ?_)))
                ((try simp [*]); (try simp (discharger := omega) only [wrap_i64, dec_t, dec_f]))
                exact .same (FR.out _ _ _ _ (by assumption) (by assumption))
              · repeat (first | ((first | refine aops_cons (fun K9 hO => ?_) | (refine aops_guardT rfl ?_ (fun K9 hO => ?_); (focus (simp [*]; done)))); simp [*]; (try simp (discharger := omega) only [wrap_i64, dec_t, dec_f]); (first | ((try (first | refine .inl ⟨by omega, by omega, ?_⟩ | refine ⟨by omega, by omega, ?_⟩ | refine ⟨by omega, ?_⟩ | refine .inl ?_)); (first | (intro b; intros; (try have hneA := ne_own (b := b) hown1 (by assumption)); (try have hneB := ne_own (b := b) hown2 (by assumption)); (try have hneC := ne_own (b := b) hown3 (by assumption)); refine hO.out _ _ ?_) | refine hO.out _ _ ?_)) | ((first | refine Tri.call (RT.out ⟨qa, qb⟩ _ _ (by simp [*])) ?_ | refine Tri.call (IHL.out ⟨qc, qb⟩ _ (by simp [*])) ?_); (first | rintro _ _ ⟨rfl, h9⟩; replace h9 := h9.symm; subst h9 | rintro _ _ ⟨_, rfl, rfl⟩ | rintro _ _ ⟨_, _, rfl, rfl⟩ | rintro _ _ ⟨_, _, _, rfl, rfl⟩); refine hO.out _ _ ?_)); clear hO; (try clear K9); (first | refine aput_some (by decide) ?_ | refine aput_none ?_)) | refine aops_nil ?_ | refine aseq_normal ?_ | refine aseq_ret ?_ | refine aseq_exit ?_ | refine ablock_normal ?_ | refine ablock_ret ?_ | refine ablock_same ?_ | refine ablock_other (by decide) ?_ | ((repeat ((fail_if_success (refine hK.out _ _ ?_)); clear hK; (try clear hP EG); (try clear KS))); refine hK.out _ _ ?_; clear hK; (try clear hP EG); try clear KS) | refine awp_seq (fun KS hK => ?_) | refine awp_region (fun KS EG hK hP => ?_) | refine awp_block ?_ | refine awp_skip ?_ | refine awp_ret ?_ | refine awp_exit ?_ | (refine awp_condT ?_ ?_; (focus (simp [*]; done))) | (refine awp_condF ?_ ?_; (focus (simp [*]; done))) | ((first | (refine aops_guardF rfl ?_ ?_; (focus (simp [*]; done))) | (refine aops_guardU rfl ?_ ?_; (focus (simp [*]; done)))); (first | refine aput_some (by decide) ?_ | refine aput_none ?_)))
                ((try simp [*]); (try simp (discharger := omega) only [wrap_i64, dec_t, dec_f]))
                exact .same (FN.out (by omega) _ _ (by assumption))
            · by_cases qd : (en : Int) < el
              · have hM0 := Lib.hid (S1.out (by omega))
                repeat (first | ((first | refine aops_cons (fun K9 hO => ?_) | (refine aops_guardT rfl ?_ (fun K9 hO => ?_); (focus (simp [*]; done)))); simp [*]; (try simp (discharger := omega) only [wrap_i64, dec_t, dec_f]); (first | ((try (first | refine .inl ⟨by omega, by omega, ?_⟩ | refine ⟨by omega, by omega, ?_⟩ | refine ⟨by omega, ?_⟩ | refine .inl ?_)); (first | (intro b; intros; (try have hneA := ne_own (b := b) hown1 (by assumption)); (try have hneB := ne_own (b := b) hown2 (by assumption)); (try have hneC := ne_own (b := b) hown3 (by assumption)); refine hO.out _ _ ?_) | refine hO.out _ _ ?_)) | ((first | refine Tri.call (RT.out ⟨qa, qb⟩ _ _ (by simp [*])) ?_ | refine Tri.call (IHR.out ⟨qa, qd⟩ _ _ _ (by assumption) (by simp [*])) ?_); (first | rintro _ _ ⟨rfl, h9⟩; replace h9 := h9.symm; subst h9 | rintro _ _ ⟨_, rfl, rfl⟩ | rintro _ _ ⟨_, _, rfl, rfl⟩ | rintro _ _ ⟨_, _, _, rfl, rfl⟩); refine hO.out _ _ ?_)); clear hO; (try clear K9); (first | refine aput_some (by decide) ?_ | refine aput_none ?_)) | refine aops_nil ?_ | refine aseq_normal ?_ | refine aseq_ret ?_ | refine aseq_exit ?_ | refine ablock_normal ?_ | refine ablock_ret ?_ | refine ablock_same ?_ | refine ablock_other (by decide) ?_ | ((repeat ((fail_if_success (refine hK.out _ _ ?_)); clear hK; (try clear hP EG); (try clear KS))); refine hK.out _ _ ?_; clear hK; (try clear hP EG); try clear KS) | refine awp_seq (fun KS hK => ?_) | refine awp_region (fun KS EG hK hP => ?_) | refine awp_block ?_ | refine awp_skip ?_ | refine awp_ret ?_ | refine awp_exit ?_ | (refine awp_condT ?_ ?_; (focus (simp [*]; done))) | (refine awp_condF ?_ ?_; (focus (simp [*]; done))) | ((first | (refine aops_guardF rfl ?_ ?_; (focus (simp [*]; done))) | (refine aops_guardU rfl ?_ ?_; (focus (simp [*]; done)))); (first | refine aput_some (by decide) ?_ | refine aput_none ?_)))
                ((try simp [*]); (try simp (discharger := omega) only [wrap_i64, dec_t, dec_f]))
                exact .same (FR.out _ _ _ _ (by assumption) (by assumption))
              · have hM0 := Lib.hid (S1.out (by omega))
                repeat (first | ((first | refine aops_cons (fun K9 hO => ?_) | (refine aops_guardT rfl ?_ (fun K9 hO => ?_); (focus (simp [*]; done)))); simp [*]; (try simp (discharger := omega) only [wrap_i64, dec_t, dec_f]); (first | ((try (first | refine .inl ⟨by omega, by omega, ?_⟩ | refine ⟨by omega, by omega, ?_⟩ | refine ⟨by omega, ?_⟩ | refine .inl ?_)); (first | (intro b; intros; (try have hneA := ne_own (b := b) hown1 (by assumption)); (try have hneB := ne_own (b := b) hown2 (by assumption)); (try have hneC := ne_own (b := b) hown3 (by assumption)); refine hO.out _ _ ?_) | refine hO.out _ _ ?_)) | ((first | refine Tri.call (RT.out ⟨qa, qb⟩ _ _ (by simp [*])) ?_); (first | rintro _ _ ⟨rfl, h9⟩; replace h9 := h9.symm; subst h9 | rintro _ _ ⟨_, rfl, rfl⟩ | rintro _ _ ⟨_, _, rfl, rfl⟩ | rintro _ _ ⟨_, _, _, rfl, rfl⟩); refine hO.out _ _ ?_)); clear hO; (try clear K9); (first | refine aput_some (by decide) ?_ | refine aput_none ?_)) | refine aops_nil ?_ | refine aseq_normal ?_ | refine aseq_ret ?_ | refine aseq_exit ?_ | refine ablock_normal ?_ | refine ablock_ret ?_ | refine ablock_same ?_ | refine ablock_other (by decide) ?_ | ((repeat ((fail_if_success (refine hK.out _ _ ?_)); clear hK; (try clear hP EG); (try clear KS))); refine hK.out _ _ ?_; clear hK; (try clear hP EG); try clear KS) | refine awp_seq (fun KS hK => ?_) | refine awp_region (fun KS EG hK hP => ?_) | refine awp_block ?_ | refine awp_skip ?_ | refine awp_ret ?_ | refine awp_exit ?_ | (refine awp_condT ?_ ?_; (focus (simp [*]; done))) | (refine awp_condF ?_ ?_; (focus (simp [*]; done))) | ((first | (refine aops_guardF rfl ?_ ?_; (focus (simp [*]; done))) | (refine aops_guardU rfl ?_ ?_; (focus (simp [*]; done)))); (first | refine aput_some (by decide) ?_ | refine aput_none ?_)))
                ((try simp [*]); (try simp (discharger := omega) only [wrap_i64, dec_t, dec_f]))
                exact .same (FN.out (by omega) _ _ (by assumption))
          · by_cases qc : (pl : Int) < s
            · by_cases qd : (en : Int) < el
              · refine awp_st (S3.out (by omega)) ?_
                have hM0 := Lib.hid (S1.out (by omega))
                repeat (first | ((first | refine aops_cons (fun K9 hO => ?_) | (refine aops_guardT rfl ?_ (fun K9 hO => ?_); (focus (simp [*]; done)))); simp [*]; (try simp (discharger := omega) only [wrap_i64, dec_t, dec_f]); (first | ((try (first | refine .inl ⟨by omega, by omega, ?_⟩ | refine ⟨by omega, by omega, ?_⟩ | refine ⟨by omega, ?_⟩ | refine .inl ?_)); (first | (intro b; intros; (try have hneA := ne_own (b := b) hown1 (by assumption)); (try have hneB := ne_own (b := b) hown2 (by assumption)); (try have hneC := ne_own (b := b) hown3 (by assumption)); refine hO.out _ _ ?_) | refine hO.out _ _ ?_)) | ((first | refine Tri.call (IHR.out ⟨qa, qd⟩ _ _ _ (by assumption) (by simp [*])) ?_); (first | rintro _ _ ⟨rfl, h9⟩; replace h9 := h9.symm; subst h9 | rintro _ _ ⟨_, rfl, rfl⟩ | rintro _ _ ⟨_, _, rfl, rfl⟩ | rintro _ _ ⟨_, _, _, rfl, rfl⟩); refine hO.out _ _ ?_)); clear hO; (try clear K9); (first | refine aput_some (by decide) ?_ | refine aput_none ?_)) | refine aops_nil ?_ | refine aseq_normal ?_ | refine aseq_ret ?_ | refine aseq_exit ?_ | refine ablock_normal ?_ | refine ablock_ret ?_ | refine ablock_same ?_ | refine ablock_other (by decide) ?_ | ((repeat ((fail_if_success (refine hK.out _ _ ?_)); clear hK; (try clear hP EG); (try clear KS))); refine hK.out _ _ ?_; clear hK; (try clear hP EG); try clear KS) | refine awp_seq (fun KS hK => ?_) | refine awp_region (fun KS EG hK hP => ?_) | refine awp_block ?_ | refine awp_skip ?_ | refine awp_ret ?_ | refine awp_exit ?_ | (refine awp_condT ?_ ?_; (focus (simp [*]; done))) | (refine awp_condF ?_ ?_; (focus (simp [*]; done))) | ((first | (refine aops_guardF rfl ?_ ?_; (focus (simp [*]; done))) | (refine aops_guardU rfl ?_ ?_; (focus (simp [*]; done)))); (first | refine aput_some (by decide) ?_ | refine aput_none ?_)))
                ((try simp [*]); (try simp (discharger := omega) only [wrap_i64, dec_t, dec_f]))
                exact .same (FR.out _ _ _ _ (by assumption) (by assumption))
              · refine awp_st (S3.out (by omega)) ?_
                have hM0 := Lib.hid (S1.out (by omega))
                refine' wlk0
                ((try simp [*]); (try simp (discharger := omega) only [wrap_i64, dec_t, dec_f]))
                exact .same (FN.out (by omega) _ _ (by assumption))
            · by_cases qd : (en : Int) < el
              · refine awp_st (S3.out (by omega)) ?_
                have hM0 := Lib.hid (S1.out (by omega))
                repeat (first | ((first | refine aops_cons (fun K9 hO => ?_) | (refine aops_guardT rfl ?_ (fun K9 hO => ?_); (focus (simp [*]; done)))); simp [*]; (try simp (discharger := omega) only [wrap_i64, dec_t, dec_f]); (first | ((try (first | refine .inl ⟨by omega, by omega, ?_⟩ | refine ⟨by omega, by omega, ?_⟩ | refine ⟨by omega, ?_⟩ | refine .inl ?_)); (first | (intro b; intros; (try have hneA := ne_own (b := b) hown1 (by assumption)); (try have hneB := ne_own (b := b) hown2 (by assumption)); (try have hneC := ne_own (b := b) hown3 (by assumption)); refine hO.out _ _ ?_) | refine hO.out _ _ ?_)) | ((first | refine Tri.call (IHR.out ⟨qa, qd⟩ _ _ _ (by assumption) (by simp [*])) ?_); (first | rintro _ _ ⟨rfl, h9⟩; replace h9 := h9.symm; subst h9 | rintro _ _ ⟨_, rfl, rfl⟩ | rintro _ _ ⟨_, _, rfl, rfl⟩ | rintro _ _ ⟨_, _, _, rfl, rfl⟩); refine hO.out _ _ ?_)); clear hO; (try clear K9); (first | refine aput_some (by decide) ?_ | refine aput_none ?_)) | refine aops_nil ?_ | refine aseq_normal ?_ | refine aseq_ret ?_ | refine aseq_exit ?_ | refine ablock_normal ?_ | refine ablock_ret ?_ | refine ablock_same ?_ | refine ablock_other (by decide) ?_ | ((repeat ((fail_if_success (refine hK.out _ _ ?_)); clear hK; (try clear hP EG); (try clear KS))); refine hK.out _ _ ?_; clear hK; (try clear hP EG); try clear KS) | refine awp_seq (fun KS hK => ?_) | refine awp_region (fun KS EG hK hP => ?_) | refine awp_block ?_ | refine awp_skip ?_ | refine awp_ret ?_ | refine awp_exit ?_ | (refine awp_condT ?_ ?_; (focus (simp [*]; done))) | (refine awp_condF ?_ ?_; (focus (simp [*]; done))) | ((first | (refine aops_guardF rfl ?_ ?_; (focus (simp [*]; done))) | (refine aops_guardU rfl ?_ ?_; (focus (simp [*]; done)))); (first | refine aput_some (by decide) ?_ | refine aput_none ?_)))
                ((try simp [*]); (try simp (discharger := omega) only [wrap_i64, dec_t, dec_f]))
                exact .same (FR.out _ _ _ _ (by assumption) (by assumption))
              · refine awp_st (S3.out (by omega)) ?_
                have hM0 := Lib.hid (S1.out (by omega))
                refine' wlk0
                ((try simp [*]); (try simp (discharger := omega) only [wrap_i64, dec_t, dec_f]))
                exact .same (FN.out (by omega) _ _ (by assumption))
        · by_cases qb : (s : Int) < mid
          · by_cases qc : (pl : Int) < s
            · by_cases qd : (en : Int) < el
              · refine awp_st (S3.out (by omega)) ?_
                repeat (first | ((first | refine aops_cons (fun K9 hO => ?_) | (refine aops_guardT rfl ?_ (fun K9 hO => ?_); (focus (simp [*]; done)))); simp [*]; (try simp (discharger := omega) only [wrap_i64, dec_t, dec_f]); (first | ((try (first | refine .inl ⟨by omega, by omega, ?_⟩ | refine ⟨by omega, by omega, ?_⟩ | refine ⟨by omega, ?_⟩ | refine .inl ?_)); (first | (intro b; intros; (try have hneA := ne_own (b := b) hown1 (by assumption)); (try have hneB := ne_own (b := b) hown2 (by assumption)); (try have hneC := ne_own (b := b) hown3 (by assumption)); refine hO.out _ _ ?_) | refine hO.out _ _ ?_)) | ((first | refine Tri.call (IHL.out ⟨qc, qb⟩ _ (by simp [*])) ?_); (first | rintro _ _ ⟨rfl, h9⟩; replace h9 := h9.symm; subst h9 | rintro _ _ ⟨_, rfl, rfl⟩ | rintro _ _ ⟨_, _, rfl, rfl⟩ | rintro _ _ ⟨_, _, _, rfl, rfl⟩); refine hO.out _ _ ?_)); clear hO; (try clear K9); (first | refine aput_some (by decide) ?_ | refine aput_none ?_)) | refine aops_nil ?_ | refine aseq_normal ?_ | refine aseq_ret ?_ | refine aseq_exit ?_ | refine ablock_normal ?_ | refine ablock_ret ?_ | refine ablock_same ?_ | refine ablock_other (by decide) ?_ | ((repeat ((fail_if_success (refine hK.out _ _ ?_)); clear hK; (try clear hP EG); (try clear KS))); refine hK.out _ _ ?_; clear hK; (try clear hP EG); try clear KS) | refine awp_seq (fun KS hK => ?_) | refine awp_region (fun KS EG hK hP => ?_) | refine awp_block ?_ | refine awp_skip ?_ | refine awp_ret ?_ | refine awp_exit ?_ | (refine awp_condT ?_ ?_; (focus (simp [*]; done))) | (refine awp_condF ?_ ?_; (focus (simp [*]; done))) | ((first | (refine aops_guardF rfl ?_ ?_; (focus (simp [*]; done))) | (refine aops_guardU rfl ?_ ?_; (focus (simp [*]; done)))); (first | refine aput_some (by decide) ?_ | refine aput_none ?_)))
                ((try simp [*]); (try simp (discharger := omega) only [wrap_i64, dec_t, dec_f]))
                exact .same (FN.out (by omega) _ _ (by assumption))
              · refine awp_st (S3.out (by omega)) ?_
                repeat (first | ((first | refine aops_cons (fun K9 hO => ?_) | (refine aops_guardT rfl ?_ (fun K9 hO => ?_); (focus (simp [*]; done)))); simp [*]; (try simp (discharger := omega) only [wrap_i64, dec_t, dec_f]); (first | ((try (first | refine .inl ⟨by omega, by omega, ?_⟩ | refine ⟨by omega, by omega, ?_⟩ | refine ⟨by omega, ?_⟩ | refine .inl ?_)); (first | (intro b; intros; (try have hneA := ne_own (b := b) hown1 (by assumption)); (try have hneB := ne_own (b := b) hown2 (by assumption)); (try have hneC := ne_own (b := b) hown3 (by assumption)); refine hO.out _ _ ?_) | refine hO.out _ _ ?_)) | ((first | refine Tri.call (IHL.out ⟨qc, qb⟩ _ (by simp [*])) ?_); (first | rintro _ _ ⟨rfl, h9⟩; replace h9 := h9.symm; subst h9 | rintro _ _ ⟨_, rfl, rfl⟩ | rintro _ _ ⟨_, _, rfl, rfl⟩ | rintro _ _ ⟨_, _, _, rfl, rfl⟩); refine hO.out _ _ ?_)); clear hO; (try clear K9); (first | refine aput_some (by decide) ?_ | refine aput_none ?_)) | refine aops_nil ?_ | refine aseq_normal ?_ | refine aseq_ret ?_ | refine aseq_exit ?_ | refine ablock_normal ?_ | refine ablock_ret ?_ | refine ablock_same ?_ | refine ablock_other (by decide) ?_ | ((repeat ((fail_if_success (refine hK.out _ _ ?_)); clear hK; (try clear hP EG); (try clear KS))); refine hK.out _ _ ?_; clear hK; (try clear hP EG); try clear KS) | refine awp_seq (fun KS hK => ?_) | refine awp_region (fun KS EG hK hP => ?_) | refine awp_block ?_ | refine awp_skip ?_ | refine awp_ret ?_ | refine awp_exit ?_ | (refine awp_condT ?_ ?_; (focus (simp [*]; done))) | (refine awp_condF ?_ ?_; (focus (simp [*]; done))) | ((first | (refine aops_guardF rfl ?_ ?_; (focus (simp [*]; done))) | (refine aops_guardU rfl ?_ ?_; (focus (simp [*]; done)))); (first | refine aput_some (by decide) ?_ | refine aput_none ?_)))
                ((try simp [*]); (try simp (discharger := omega) only [wrap_i64, dec_t, dec_f]))
                exact .same (FN.out (by omega) _ _ (by assumption))
            · by_cases qd : (en : Int) < el
              · refine awp_st (S3.out (by omega)) ?_
                have hM0 := Lib.hid (S1.out (by omega))
                refine' wlk0
                ((try simp [*]); (try simp (discharger := omega) only [wrap_i64, dec_t, dec_f]))
                exact .same (FN.out (by omega) _ _ (by assumption))
              · refine awp_st (S3.out (by omega)) ?_
                have hM0 := Lib.hid (S1.out (by omega))
                refine' wlk0
                ((try simp [*]); (try simp (discharger := omega) only [wrap_i64, dec_t, dec_f]))
                exact .same (FN.out (by omega) _ _ (by assumption))
          · by_cases qc : (pl : Int) < s
            · by_cases qd : (en : Int) < el
              · refine awp_st (S3.out (by omega)) ?_
                have hM0 := Lib.hid (S1.out (by omega))
                refine' wlk0
                ((try simp [*]); (try simp (discharger := omega) only [wrap_i64, dec_t, dec_f]))
                exact .same (FN.out (by omega) _ _ (by assumption))
              · refine awp_st (S3.out (by omega)) ?_
                have hM0 := Lib.hid (S1.out (by omega))
                refine' wlk0
                ((try simp [*]); (try simp (discharger := omega) only [wrap_i64, dec_t, dec_f]))
                exact .same (FN.out (by omega) _ _ (by assumption))
            · by_cases qd : (en : Int) < el
              · refine awp_st (S3.out (by omega)) ?_
                have hM0 := Lib.hid (S1.out (by omega))
                refine' wlk0
                ((try simp [*]); (try simp (discharger := omega) only [wrap_i64, dec_t, dec_f]))
                exact .same (FN.out (by omega) _ _ (by assumption))
              · refine awp_st (S3.out (by omega)) ?_
                have hM0 := Lib.hid (S1.out (by omega))
                refine' wlk0
                ((try simp [*]); (try simp (discharger := omega) only [wrap_i64, dec_t, dec_f]))
                exact .same (FN.out (by omega) _ _ (by assumption))
  have HR := Lib.hid REST
  clear REST hK
  by_cases hc : (mid : Int) < ml
  · have hn1 : (mid : Int) + ml - el = ((mid + ml - el : Nat) : Int) := by have := HALL.out; have := HMID.out; omega
    have hc' : mid < ml := by omega
    have hn2 : IntKind.i64.wrap ((mid + ml - el : Nat) : Int) = ((mid + ml - el : Nat) : Int) := wrap_i64 _ (by omega) (by have := HALL.out; have := HMID.out; omega)
    refine' wlk0
    refine HR.out _ (mid + ml - el) mid ?_ ?_ ?_ ?_ ?_ ?_ ?_ ?_ ?_ ?_ ?_ ?_ ?_ ?_ (.inl rfl) (.inr ?_)
    all_goals first | (have := HALL.out; have := HMID.out; omega) | skip
    all_goals simp [*]
  · have hc' : ¬ mid < ml := by omega
    have hc2 : ml ≤ mid := by omega
    refine' wlk0
    refine HR.out _ pl ml ?_ ?_ ?_ ?_ ?_ ?_ ?_ ?_ ?_ ?_ ?_ ?_ ?_ ?_ (.inr rfl) (.inl rfl)
    all_goals first | (have := HALL.out; have := HMID.out; omega) | skip
    all_goals simp [*]
theorem symT (b cap n : Nat) (hmax : n ≤ 140737488355328) (P L R S : List Mem) (σ : St) (hL0 : L ≠ []) (hR0 : R ≠ []) (sL : Sorted L) (sR : Sorted R) : SymSays b cap n P L R S σ := by
  obtain ⟨N, hN⟩ : ∃ N, N = L.length + R.length := ⟨_, rfl⟩
  induction N using Nat.strongRecOn generalizing P L R S σ with
  | _ N ih =>
    have hLp := List.length_pos_iff.2 hL0
    have hRp := List.length_pos_iff.2 hR0
    by_cases hL2 : 2 ≤ L.length
    · by_cases hR2 : 2 ≤ R.length
      · obtain ⟨x, hx⟩ := List.exists_mem_of_ne_nil L hL0
        exact symGen b cap n x P L R S σ hmax hL2 hR2 sL sR (Lib.hid fun P' L' R' S' σ' h1 h2 h3 h4 h5 => ih _ (by omega) P' L' R' S' σ' h1 h2 h3 h4 rfl)
      · intro pl ml el hown1 ha hm he hn
        obtain ⟨y, rfl⟩ := List.length_eq_one_iff.1 (show R.length = 1 by omega)
        have h1 : (ml : Int) = (pl : Int) + L.length := by omega
        have h2 : (el : Int) = (pl : Int) + L.length + 1 := by simp at he; omega
        rw [h1, h2]
        exact symLast b cap n pl y P L S σ (by simpa using hown1) ha (by simpa using hn) hmax hL2 sL
    · intro pl ml el hown1 ha hm he hn
      obtain ⟨x, rfl⟩ := List.length_eq_one_iff.1 (show L.length = 1 by omega)
      have h1 : (ml : Int) = (pl : Int) + 1 := by simp at hm; omega
      have h2 : (el : Int) = (pl : Int) + 1 + R.length := by simp at hm; omega
      rw [h1, h2]
      exact symOne b cap n pl x P R S σ (by simpa using hown1) ha (by simpa using hn) hmax sR
end Go.Proofs.YtmjendeigjdihaaDoor
/-
  A stable sort (chapter 1): whole.
-/
namespace Go.Proofs.YtmjendeigjdihaaDoor
open Go.RowKit
set_option maxRecDepth 100000
set_option linter.unusedVariables false
set_option linter.unusedSimpArgs false
attribute [local irreducible] awp aops aop aput aseq ablock TriX Tri Ret Fresh dq adraw dtail dals dfin Wk

/-- Each piece of s is sorted. -/
def Blk (s : Nat) (l : List Mem) : Prop := ∀ k, Sorted ((l.drop (k * s)).take s)
theorem Blk.nil (s : Nat) : Blk s [] := fun k => by rw [List.drop_nil, List.take_nil]; exact List.Pairwise.nil
theorem Blk.append {s : Nat} {Y M : List Mem} (h : Blk s Y) (q : Nat) (hq : Y.length = q * s) (hM : Sorted M) (hl : M.length ≤ s) : Blk s (Y ++ M) := by
  intro k
  by_cases hk : k < q
  · have h1 : k * s + s ≤ Y.length := by
      rw [hq]
      have := Nat.mul_le_mul_right s (show k + 1 ≤ q from hk)
      rwa [Nat.add_mul, Nat.one_mul] at this
    rw [List.drop_append_of_le_length (by omega), List.take_append_of_le_length (by rw [List.length_drop]; omega)]
    exact h k
  · have h1 : Y.length ≤ k * s := by
      rw [hq]
      exact Nat.mul_le_mul_right s (by omega)
    rw [List.drop_append, List.drop_eq_nil_of_le h1, List.nil_append]
    exact List.Pairwise.sublist ((List.take_sublist _ _).trans (List.drop_sublist _ _)) hM
theorem Blk.drop {s : Nat} {Z : List Mem} (h : Blk s Z) (j : Nat) : Blk s (Z.drop (j * s)) := fun k => by
  rw [List.drop_drop, show j * s + k * s = (j + k) * s by rw [Nat.add_mul]]
  exact h (j + k)
theorem Blk.one {s : Nat} {Z : List Mem} (h : Blk s Z) (hz : Z.length ≤ s) : Sorted Z := by
  have := h 0
  rwa [Nat.zero_mul, List.drop_zero, List.take_of_length_le hz] at this
theorem split3 {α : Type} (l : List α) (n : Nat) (h : n ≤ l.length) : ∃ a b, l = a ++ b ∧ a.length = n ∧ b = l.drop n ∧ a = l.take n := ⟨l.take n, l.drop n, (List.take_append_drop n l).symm, by rw [List.length_take]; omega, rfl, rfl⟩
theorem insQ (b cap n : Nat) (a e : Int) (P L S : List Mem) (σ : St) (cs : List (List D)) (hcs : cs = (P ++ L ++ S).map mD) (h : σ.own b = some (.arr 45 7 cap cs)) (ha : a = P.length) (he : e = P.length + L.length) (hn : n = (P ++ L ++ S).length) (hmax : n ≤ 140737488355328) :
    Tri Tryd.prog 72 [.arr b 7 cap 0 n, .i a, .i e, .fn (.func 43) [] []] σ (SortQ b cap P L S σ) :=
  (insT b cap n a e P L S σ (by rw [h, hcs]) ha he hn hmax).mono fun _ _ => SortR.q
theorem symQ (b cap n : Nat) (a m e : Int) (P L R S : List Mem) (σ : St) (cs : List (List D)) (hcs : cs = (P ++ L ++ R ++ S).map mD) (h : σ.own b = some (.arr 45 7 cap cs)) (ha : a = P.length) (hm : m = P.length + L.length) (he : e = P.length + L.length + R.length) (hn : n = (P ++ L ++ R ++ S).length) (hmax : n ≤ 140737488355328) (hL0 : L ≠ []) (hR0 : R ≠ []) (sL : Sorted L) (sR : Sorted R) :
    Tri Tryd.prog 73 [.arr b 7 cap 0 n, .i a, .i m, .i e, .fn (.func 43) [] []] σ (SortQ b cap P (L ++ R) S σ) := by
  have := (symT b cap n hmax P L R S σ hL0 hR0 sL sR P.length (P.length + L.length) (P.length + L.length + R.length) (by rw [h, hcs]) rfl rfl rfl hn).mono fun _ _ => SortR.q
  rw [ha, hm, he]
  exact_mod_cast this
set_option maxHeartbeats 16000000 in
theorem stableT (b cap n : Nat) (xs : List Mem) (σ : St) (cs : List (List D)) (hcs : Hid (cs = xs.map mD)) (hown1 : σ.own b = some (.arr 45 7 cap cs)) (hn : n = xs.length) (hmax : n ≤ 140737488355328) :
    Tri Tryd.prog 65 [.arr b 7 cap 0 n, .i n, .fn (.func 43) [] []] σ (SortQ b cap [] xs [] σ) := by
  have HN := Lib.hid hn
  clear hn
  refine tri_fn Tryd.func65 rfl Tryd.ntmps65 Tryd.results65 (Nat.le_of_ble_eq_true rfl) ?_
  refine' wlk0
  refine awp_loopM [7, 8, 11, 12, 13, 14, 15, 16, 17, 18, 19, 20, 21, 22] (fun X τ => ∃ (a q : Nat) (Y Z : List Mem) (c : List (List D)), X 7 = .i a ∧ X 8 = .i (a + 20) ∧ Hid (a = Y.length ∧ a = q * 20 ∧ a ≤ n ∧ xs.drop a = Z ∧ StPerm (xs.take a) Y ∧ Blk 20 Y ∧ c = (Y ++ Z).map mD) ∧ τ = σ.set b (some (.arr 45 7 cap c))) (fun X _ => n + 20 - (X 8).int.toNat) ?_ ?_
  · refine .same ⟨mix_self _ _, 0, 0, [], xs, cs, ?_, ?_, Lib.hid ⟨rfl, rfl, Nat.zero_le _, rfl, .refl _, Blk.nil _, hcs.out⟩, ?_⟩
    · simp [*]
    · simp [*]
    · rw [set_same hown1]
  · rintro X τ ⟨a, q, Y, Z, c, h7, h8, hf, rfl⟩ _ hL
    have hlim : a ≤ n := hf.out.2.2.1
    by_cases hc : (a : Int) + 20 ≤ n
    · obtain ⟨Z1, Z2, hZ, hZ1, hZ2, -⟩ := split3 Z 20 (by have h1 := congrArg List.length hf.out.2.2.2.1; have := HN.out; rw [List.length_drop] at h1; omega)
      have IQ := Lib.hid (fun σ' h => insQ b cap n a (a + 20) Y Z1 Z2 σ' c (by rw [hf.out.2.2.2.2.2.2, hZ]; simp) h (by have := hf.out.1; omega) (by have := hf.out.1; omega) (by
        have h1 := congrArg List.length hf.out.2.2.2.1
        have h2 := HN.out
        have h3 := hf.out.1
        rw [List.length_drop, hZ] at h1
        simp at h1 ⊢
        omega) hmax)
      have hw : IntKind.i64.wrap ((a : Int) + 20 + 20) = (a : Int) + 20 + 20 := wrap_i64 _ (by omega) (by omega)
      have HZ := Lib.hid (And.intro hZ (And.intro hZ1 hZ2))
      clear hZ hZ1 hZ2
      repeat (first | ((first | refine aops_cons (fun K9 hO => ?_) | (refine aops_guardT rfl ?_ (fun K9 hO => ?_); (focus (simp [*]; done)))); simp [*]; (try simp (discharger := omega) only [wrap_i64, dec_t, dec_f]); (first | ((try (first | refine .inl ⟨by omega, by omega, ?_⟩ | refine ⟨by omega, by omega, ?_⟩ | refine ⟨by omega, ?_⟩ | refine .inl ?_)); (first | (intro b; intros; (try have hneA := ne_own (b := b) hown1 (by assumption)); (try have hneB := ne_own (b := b) hown2 (by assumption)); (try have hneC := ne_own (b := b) hown3 (by assumption)); refine hO.out _ _ ?_) | refine hO.out _ _ ?_)) | ((first | refine Tri.call (IQ.out _ (by simp [*])) ?_); (first | rintro _ _ ⟨rfl, h9⟩; replace h9 := h9.symm; subst h9 | rintro _ _ ⟨_, rfl, rfl⟩ | rintro _ _ ⟨_, _, rfl, rfl⟩ | rintro _ _ ⟨_, _, _, rfl, rfl⟩); refine hO.out _ _ ?_)); clear hO; (try clear K9); (first | refine aput_some (by decide) ?_ | refine aput_none ?_)) | refine aops_nil ?_ | refine aseq_normal ?_ | refine aseq_ret ?_ | refine aseq_exit ?_ | refine ablock_normal ?_ | refine ablock_ret ?_ | refine ablock_same ?_ | refine ablock_other (by decide) ?_ | ((repeat ((fail_if_success (refine hK.out _ _ ?_)); clear hK; (try clear hP EG); (try clear KS))); refine hK.out _ _ ?_; clear hK; (try clear hP EG); try clear KS) | refine awp_seq (fun KS hK => ?_) | refine awp_region (fun KS EG hK hP => ?_) | refine awp_block ?_ | refine awp_skip ?_ | refine awp_ret ?_ | refine awp_exit ?_ | (refine awp_condT ?_ ?_; (focus (simp [*]; done))) | (refine awp_condF ?_ ?_; (focus (simp [*]; done))) | ((first | (refine aops_guardF rfl ?_ ?_; (focus (simp [*]; done))) | (refine aops_guardU rfl ?_ ?_; (focus (simp [*]; done)))); (first | refine aput_some (by decide) ?_ | refine aput_none ?_)))
      rename_i c2 M hM
      refine hL.out _ _ (.same ⟨mixT, ⟨a + 20, q + 1, Y ++ M, Z2, c2, ?_, ?_, Lib.hid ⟨?_, ?_, ?_, ?_, ?_, ?_, ?_⟩, rfl⟩, ?_⟩)
      · simp [*]
      · simp [*]
      · have := stperm_len hM.out.1
        have := hf.out.1
        have := HZ.out
        simp; omega
      · have := hf.out.2.1
        omega
      · omega
      · rw [← List.drop_drop, hf.out.2.2.2.1, HZ.out.2.2]
      · have h1 : xs.take (a + 20) = xs.take a ++ Z1 := by
          have h2 : (Z1 ++ Z2).take 20 = Z1 := by
            have := HZ.out.2.1
            rw [List.take_append_of_le_length (by omega), List.take_of_length_le (by omega)]
          rw [List.take_add, hf.out.2.2.2.1, HZ.out.1, h2]
        rw [h1]
        exact hf.out.2.2.2.2.1.append hM.out.1
      · exact hf.out.2.2.2.2.2.1.append q (by have := hf.out.1; have := hf.out.2.1; omega) hM.out.2.1 (by have := stperm_len hM.out.1; have := HZ.out.2.1; omega)
      · exact hM.out.2.2
      · simp [*, D.int]; omega
    · have hzl : Z.length < 20 ∧ a + Z.length = n := by
        have h1 := congrArg List.length hf.out.2.2.2.1
        have h2 := HN.out
        rw [List.length_drop] at h1
        omega
      have IQ := Lib.hid (fun σ' h => insQ b cap n a n Y Z [] σ' c (by rw [hf.out.2.2.2.2.2.2]; simp) h (by have := hf.out.1; omega) (by have := hf.out.1; omega) (by have := hf.out.1; simp; omega) hmax)
      repeat (first | ((first | refine aops_cons (fun K9 hO => ?_) | (refine aops_guardT rfl ?_ (fun K9 hO => ?_); (focus (simp [*]; done)))); simp [*]; (try simp (discharger := omega) only [wrap_i64, dec_t, dec_f]); (first | ((try (first | refine .inl ⟨by omega, by omega, ?_⟩ | refine ⟨by omega, by omega, ?_⟩ | refine ⟨by omega, ?_⟩ | refine .inl ?_)); (first | (intro b; intros; (try have hneA := ne_own (b := b) hown1 (by assumption)); (try have hneB := ne_own (b := b) hown2 (by assumption)); (try have hneC := ne_own (b := b) hown3 (by assumption)); refine hO.out _ _ ?_) | refine hO.out _ _ ?_)) | ((first | refine Tri.call (IQ.out _ (by simp [*])) ?_); (first | rintro _ _ ⟨rfl, h9⟩; replace h9 := h9.symm; subst h9 | rintro _ _ ⟨_, rfl, rfl⟩ | rintro _ _ ⟨_, _, rfl, rfl⟩ | rintro _ _ ⟨_, _, _, rfl, rfl⟩); refine hO.out _ _ ?_)); clear hO; (try clear K9); (first | refine aput_some (by decide) ?_ | refine aput_none ?_)) | refine aops_nil ?_ | refine aseq_normal ?_ | refine aseq_ret ?_ | refine aseq_exit ?_ | refine ablock_normal ?_ | refine ablock_ret ?_ | refine ablock_same ?_ | refine ablock_other (by decide) ?_ | ((repeat ((fail_if_success (refine hK.out _ _ ?_)); clear hK; (try clear hP EG); (try clear KS))); refine hK.out _ _ ?_; clear hK; (try clear hP EG); try clear KS) | refine awp_seq (fun KS hK => ?_) | refine awp_region (fun KS EG hK hP => ?_) | refine awp_block ?_ | refine awp_skip ?_ | refine awp_ret ?_ | refine awp_exit ?_ | (refine awp_condT ?_ ?_; (focus (simp [*]; done))) | (refine awp_condF ?_ ?_; (focus (simp [*]; done))) | ((first | (refine aops_guardF rfl ?_ ?_; (focus (simp [*]; done))) | (refine aops_guardU rfl ?_ ?_; (focus (simp [*]; done)))); (first | refine aput_some (by decide) ?_ | refine aput_none ?_)))
      rename_i c2 M hM
      have key : StPerm xs (Y ++ M) ∧ Blk 20 (Y ++ M) ∧ c2 = (Y ++ M).map mD := by
        refine ⟨?_, hf.out.2.2.2.2.2.1.append q (by have := hf.out.1; have := hf.out.2.1; omega) hM.out.2.1 (by have := stperm_len hM.out.1; omega), by rw [hM.out.2.2, List.append_nil]⟩
        have := hf.out.2.2.2.2.1.append hM.out.1
        rw [← hf.out.2.2.2.1, List.take_append_drop] at this
        exact this
      have KEY := Lib.hid key
      clear key hL hM hf hzl IQ hlim hc
      refine awp_loopM [6, 7, 8, 9, 28, 29, 30, 31, 32, 33, 34, 35, 36, 37, 38, 39, 40, 41, 42, 43, 44, 45, 46, 47, 48, 49, 50, 51, 52, 53, 54, 55, 56, 57, 58, 59, 60, 61, 62] (fun X τ => ∃ (s : Nat) (ys : List Mem) (c : List (List D)), X 6 = .i s ∧ Hid (0 < s ∧ StPerm xs ys ∧ Blk s ys ∧ c = ys.map mD ∧ s ≤ 281474976710656) ∧ τ = σ.set b (some (.arr 45 7 cap c))) (fun X _ => n - (X 6).int.toNat) ?_ ?_
      · refine .same ⟨mix_self _ _, 20, Y ++ M, c2, ?_, Lib.hid ⟨by omega, KEY.out.1, KEY.out.2.1, KEY.out.2.2, by omega⟩, ?_⟩
        · simp [*]
        · simp
      · rintro X τ ⟨s, ys, c, h6, hf, rfl⟩ _ hLo
        have hys : ys.length = n := by have := stperm_len hf.out.2.1; have := HN.out; omega
        have hs0 := hf.out.1
        by_cases hc : (s : Int) < n
        · have hw2 : IntKind.i64.wrap (2 * (s : Int)) = 2 * (s : Int) := wrap_i64 _ (by omega) (by omega)
          have HYS := Lib.hid hys
          clear hys
          refine' wlk0
          refine awp_loopM [7, 8, 33, 34, 35, 36, 37, 38, 39, 40, 41, 42, 43, 44, 45, 46, 47, 48] (fun X τ => ∃ (a q : Nat) (Y Z : List Mem) (c : List (List D)), X 7 = .i a ∧ X 8 = .i (a + 2 * s) ∧ Hid (a = Y.length ∧ a = q * (2 * s) ∧ a ≤ n ∧ a + Z.length = n ∧ StPerm ys (Y ++ Z) ∧ Blk (2 * s) Y ∧ Blk s Z ∧ c = (Y ++ Z).map mD) ∧ τ = σ.set b (some (.arr 45 7 cap c))) (fun X _ => n + 2 * s - (X 8).int.toNat) ?_ ?_
          · refine .same ⟨mix_self _ _, 0, 0, [], ys, c, ?_, ?_, Lib.hid ⟨rfl, by simp, Nat.zero_le _, by rw [HYS.out]; simp, .refl _, Blk.nil _, hf.out.2.2.1, by rw [hf.out.2.2.2.1]; simp⟩, rfl⟩
            · simp [*]
            · simp [*]
          · rintro X τ ⟨a, q, Y, Z, c', h7, h8, hg, rfl⟩ _ hL
            obtain ⟨g1, g2, g3, g4, g5, g6, g7, g8⟩ := hg.out
            by_cases hb : (a : Int) + 2 * s ≤ n
            · obtain ⟨A, Z1, hA1, hA2, hA3, hA4⟩ := split3 Z s (by omega)
              have hz1 : Z1.length = Z.length - s := by rw [hA3, List.length_drop]
              obtain ⟨B, Z2, hB1, hB2, hB3, hB4⟩ := split3 Z1 s (by omega)
              have sA : Sorted A := by have := g7 0; rwa [Nat.zero_mul, List.drop_zero, ← hA4] at this
              have sB : Sorted B := by have := g7 1; rwa [Nat.one_mul, ← hA3, ← hB4] at this
              have bZ : Blk s Z2 := by have := g7.drop 2; rwa [show 2 * s = s + s by omega, ← List.drop_drop, ← hA3, ← hB3] at this
              have hz2 : Z2.length = Z1.length - s := by rw [hB3, List.length_drop]
              have SQ := Lib.hid (fun σ' h => symQ b cap n a (a + s) (a + 2 * s) Y A B Z2 σ' c' (by rw [g8, hA1, hB1]; simp) h (by omega) (by omega) (by omega) (by simp; omega) hmax (List.length_pos_iff.1 (by omega)) (List.length_pos_iff.1 (by omega)) sA sB)
              have hw3 : IntKind.i64.wrap ((a : Int) + s) = (a : Int) + s := wrap_i64 _ (by omega) (by omega)
              have hw4 : IntKind.i64.wrap ((a : Int) + 2 * s + 2 * s) = (a : Int) + 2 * s + 2 * s := wrap_i64 _ (by omega) (by omega)
              have hAB := Lib.hid (show StPerm ys (Y ++ (A ++ B) ++ Z2) ∧ Blk s Z2 ∧ A.length = s ∧ B.length = s ∧ a + 2 * s + Z2.length = n from ⟨by rw [hA1, hB1] at g5; simpa using g5, bZ, hA2, hB2, by omega⟩)
              clear g1 g2 g3 g4 g5 g6 g7 g8 hA1 hA2 hA3 hA4 hB1 hB2 hB3 hB4 hz1 hz2 sA sB bZ
              repeat (first | ((first | refine aops_cons (fun K9 hO => ?_) | (refine aops_guardT rfl ?_ (fun K9 hO => ?_); (focus (simp [*]; done)))); simp [*]; (try simp (discharger := omega) only [wrap_i64, dec_t, dec_f]); (first | ((try (first | refine .inl ⟨by omega, by omega, ?_⟩ | refine ⟨by omega, by omega, ?_⟩ | refine ⟨by omega, ?_⟩ | refine .inl ?_)); (first | (intro b; intros; (try have hneA := ne_own (b := b) hown1 (by assumption)); (try have hneB := ne_own (b := b) hown2 (by assumption)); (try have hneC := ne_own (b := b) hown3 (by assumption)); refine hO.out _ _ ?_) | refine hO.out _ _ ?_)) | ((first | refine Tri.call (SQ.out _ (by simp [*])) ?_); (first | rintro _ _ ⟨rfl, h9⟩; replace h9 := h9.symm; subst h9 | rintro _ _ ⟨_, rfl, rfl⟩ | rintro _ _ ⟨_, _, rfl, rfl⟩ | rintro _ _ ⟨_, _, _, rfl, rfl⟩); refine hO.out _ _ ?_)); clear hO; (try clear K9); (first | refine aput_some (by decide) ?_ | refine aput_none ?_)) | refine aops_nil ?_ | refine aseq_normal ?_ | refine aseq_ret ?_ | refine aseq_exit ?_ | refine ablock_normal ?_ | refine ablock_ret ?_ | refine ablock_same ?_ | refine ablock_other (by decide) ?_ | ((repeat ((fail_if_success (refine hK.out _ _ ?_)); clear hK; (try clear hP EG); (try clear KS))); refine hK.out _ _ ?_; clear hK; (try clear hP EG); try clear KS) | refine awp_seq (fun KS hK => ?_) | refine awp_region (fun KS EG hK hP => ?_) | refine awp_block ?_ | refine awp_skip ?_ | refine awp_ret ?_ | refine awp_exit ?_ | (refine awp_condT ?_ ?_; (focus (simp [*]; done))) | (refine awp_condF ?_ ?_; (focus (simp [*]; done))) | ((first | (refine aops_guardF rfl ?_ ?_; (focus (simp [*]; done))) | (refine aops_guardU rfl ?_ ?_; (focus (simp [*]; done)))); (first | refine aput_some (by decide) ?_ | refine aput_none ?_)))
              rename_i c2 M hM
              obtain ⟨g1, g2, g3, g4, g5, g6, g7, g8⟩ := hg.out
              have hml := stperm_len hM.out.1
              obtain ⟨k1, k2, k3, k4, k5⟩ := hAB.out
              have gl : M.length = 2 * s := by rw [← hml, List.length_append]; omega
              have K1 := Lib.hid (show StPerm ys (Y ++ M ++ Z2) from k1.trans ((StPerm.append (.refl Y) hM.out.1).append (.refl Z2)))
              have K2 := Lib.hid (g6.append (M := M) q (by omega) hM.out.2.1 (by omega))
              have K3 := Lib.hid (show a + 2 * s = (Y ++ M).length ∧ a + 2 * s = (q + 1) * (2 * s) ∧ a + 2 * s ≤ n from ⟨by rw [List.length_append]; omega, by rw [Nat.add_mul]; omega, by omega⟩)
              clear g1 g2 g3 g4 g5 g6 g7 g8 k1 k2 k3 k4 hml gl
              refine hL.out _ _ (.same ⟨mixT, ⟨a + 2 * s, q + 1, Y ++ M, Z2, c2, ?_, ?_, Lib.hid ⟨K3.out.1, K3.out.2.1, K3.out.2.2, k5, K1.out, K2.out, hAB.out.2.1, hM.out.2.2⟩, ?_⟩, ?_⟩)
              · simp [*]
              · simp [*]
              · simp
              · simp [*, D.int]; omega
            · have hw3 : IntKind.i64.wrap ((a : Int) + s) = (a : Int) + s := wrap_i64 _ (by omega) (by omega)
              have hw5 : IntKind.i64.wrap ((s : Int) * 2) = (s : Int) * 2 := wrap_i64 _ (by omega) (by omega)
              by_cases hm : (a : Int) + s < n
              · obtain ⟨A, B, hA1, hA2, hA3, hA4⟩ := split3 Z s (by omega)
                have hz1 : B.length = Z.length - s := by rw [hA3, List.length_drop]
                have sA : Sorted A := by have := g7 0; rwa [Nat.zero_mul, List.drop_zero, ← hA4] at this
                have sB : Sorted B := by have := g7 1; rwa [Nat.one_mul, ← hA3, List.take_of_length_le (by omega)] at this
                have SQ := Lib.hid (fun σ' h => symQ b cap n a (a + s) n Y A B [] σ' c' (by rw [g8, hA1]; simp) h (by omega) (by omega) (by omega) (by simp; omega) hmax (List.length_pos_iff.1 (by omega)) (List.length_pos_iff.1 (by omega)) sA sB)
                have hAB := Lib.hid (show StPerm ys (Y ++ (A ++ B)) ∧ A.length + B.length = Z.length from ⟨by rwa [hA1] at g5, by omega⟩)
                clear g1 g2 g3 g4 g5 g6 g7 g8 hA1 hA2 hA3 hA4 hz1 sA sB
                repeat (first | ((first | refine aops_cons (fun K9 hO => ?_) | (refine aops_guardT rfl ?_ (fun K9 hO => ?_); (focus (simp [*]; done)))); simp [*]; (try simp (discharger := omega) only [wrap_i64, dec_t, dec_f]); (first | ((try (first | refine .inl ⟨by omega, by omega, ?_⟩ | refine ⟨by omega, by omega, ?_⟩ | refine ⟨by omega, ?_⟩ | refine .inl ?_)); (first | (intro b; intros; (try have hneA := ne_own (b := b) hown1 (by assumption)); (try have hneB := ne_own (b := b) hown2 (by assumption)); (try have hneC := ne_own (b := b) hown3 (by assumption)); refine hO.out _ _ ?_) | refine hO.out _ _ ?_)) | ((first | refine Tri.call (SQ.out _ (by simp [*])) ?_); (first | rintro _ _ ⟨rfl, h9⟩; replace h9 := h9.symm; subst h9 | rintro _ _ ⟨_, rfl, rfl⟩ | rintro _ _ ⟨_, _, rfl, rfl⟩ | rintro _ _ ⟨_, _, _, rfl, rfl⟩); refine hO.out _ _ ?_)); clear hO; (try clear K9); (first | refine aput_some (by decide) ?_ | refine aput_none ?_)) | refine aops_nil ?_ | refine aseq_normal ?_ | refine aseq_ret ?_ | refine aseq_exit ?_ | refine ablock_normal ?_ | refine ablock_ret ?_ | refine ablock_same ?_ | refine ablock_other (by decide) ?_ | ((repeat ((fail_if_success (refine hK.out _ _ ?_)); clear hK; (try clear hP EG); (try clear KS))); refine hK.out _ _ ?_; clear hK; (try clear hP EG); try clear KS) | refine awp_seq (fun KS hK => ?_) | refine awp_region (fun KS EG hK hP => ?_) | refine awp_block ?_ | refine awp_skip ?_ | refine awp_ret ?_ | refine awp_exit ?_ | (refine awp_condT ?_ ?_; (focus (simp [*]; done))) | (refine awp_condF ?_ ?_; (focus (simp [*]; done))) | ((first | (refine aops_guardF rfl ?_ ?_; (focus (simp [*]; done))) | (refine aops_guardU rfl ?_ ?_; (focus (simp [*]; done)))); (first | refine aput_some (by decide) ?_ | refine aput_none ?_)))
                rename_i c2 M hM
                obtain ⟨g1, g2, g3, g4, g5, g6, g7, g8⟩ := hg.out
                have hml := stperm_len hM.out.1
                rw [List.length_append] at hml
                have K1 := Lib.hid (show StPerm xs (Y ++ M) from hf.out.2.1.trans (hAB.out.1.trans (StPerm.append (.refl Y) hM.out.1)))
                have K2 := Lib.hid (g6.append (M := M) q (by omega) hM.out.2.1 (by have := hAB.out.2; omega))
                clear g1 g2 g3 g4 g5 g6 g7 g8 hml
                refine hLo.out _ _ (.same ⟨mixT, ⟨s * 2, Y ++ M, c2, ?_, Lib.hid ⟨by omega, K1.out, by rw [show s * 2 = 2 * s by omega]; exact K2.out, by rw [hM.out.2.2, List.append_nil], by omega⟩, ?_⟩, ?_⟩)
                · simp [*]
                · simp
                · simp [*, D.int]; omega
              · have K1 := Lib.hid (show StPerm xs (Y ++ Z) from hf.out.2.1.trans g5)
                have K2 := Lib.hid (g6.append (M := Z) q (by omega) (g7.one (by omega)) (by omega))
                have G8 := Lib.hid g8
                clear g1 g2 g3 g4 g5 g6 g7 g8
                refine' wlk0
                refine hLo.out _ _ (.same ⟨mixT, ⟨s * 2, Y ++ Z, c', ?_, Lib.hid ⟨by omega, K1.out, by rw [show s * 2 = 2 * s by omega]; exact K2.out, G8.out, by omega⟩, rfl⟩, ?_⟩)
                · simp [*]
                · simp [*, D.int]; omega
        · have HR := Lib.hid (show SortQ b cap [] xs [] σ (.tup []) (σ.set b (some (.arr 45 7 cap c))) from ⟨c, ys, Lib.hid ⟨hf.out.2.1, hf.out.2.2.1.one (by omega), by rw [hf.out.2.2.2.1]; simp⟩, rfl, rfl⟩)
          clear hys
          refine' wlk0
          ((try simp [*]); (try simp (discharger := omega) only [wrap_i64, dec_t, dec_f]))
          exact .same HR.out
theorem sortT (b cap n : Nat) (xs : List Mem) (σ : St) (cs : List (List D)) (hcs : Hid (cs = xs.map mD)) (hown1 : σ.own b = some (.arr 45 7 cap cs)) (hn : n = xs.length) (hmax : n ≤ 140737488355328) :
    Tri Tryd.prog 42 [.arr b 7 cap 0 n, .fn (.func 43) [] []] σ (SortQ b cap [] xs [] σ) := by
  have ST := Lib.hid (stableT b cap n xs σ cs hcs hown1 hn hmax)
  clear hn
  refine tri_fn Tryd.func42 rfl Tryd.ntmps42 Tryd.results42 (Nat.le_of_ble_eq_true rfl) ?_
  repeat (first | ((first | refine aops_cons (fun K9 hO => ?_) | (refine aops_guardT rfl ?_ (fun K9 hO => ?_); (focus (simp [*]; done)))); simp [*]; (try simp (discharger := omega) only [wrap_i64, dec_t, dec_f]); (first | ((try (first | refine .inl ⟨by omega, by omega, ?_⟩ | refine ⟨by omega, by omega, ?_⟩ | refine ⟨by omega, ?_⟩ | refine .inl ?_)); (first | (intro b; intros; (try have hneA := ne_own (b := b) hown1 (by assumption)); (try have hneB := ne_own (b := b) hown2 (by assumption)); (try have hneC := ne_own (b := b) hown3 (by assumption)); refine hO.out _ _ ?_) | refine hO.out _ _ ?_)) | ((first | refine Tri.call (ST.out) ?_); (first | rintro _ _ ⟨rfl, h9⟩; replace h9 := h9.symm; subst h9 | rintro _ _ ⟨_, rfl, rfl⟩ | rintro _ _ ⟨_, _, rfl, rfl⟩ | rintro _ _ ⟨_, _, _, rfl, rfl⟩); refine hO.out _ _ ?_)); clear hO; (try clear K9); (first | refine aput_some (by decide) ?_ | refine aput_none ?_)) | refine aops_nil ?_ | refine aseq_normal ?_ | refine aseq_ret ?_ | refine aseq_exit ?_ | refine ablock_normal ?_ | refine ablock_ret ?_ | refine ablock_same ?_ | refine ablock_other (by decide) ?_ | ((repeat ((fail_if_success (refine hK.out _ _ ?_)); clear hK; (try clear hP EG); (try clear KS))); refine hK.out _ _ ?_; clear hK; (try clear hP EG); try clear KS) | refine awp_seq (fun KS hK => ?_) | refine awp_region (fun KS EG hK hP => ?_) | refine awp_block ?_ | refine awp_skip ?_ | refine awp_ret ?_ | refine awp_exit ?_ | (refine awp_condT ?_ ?_; (focus (simp [*]; done))) | (refine awp_condF ?_ ?_; (focus (simp [*]; done))) | ((first | (refine aops_guardF rfl ?_ ?_; (focus (simp [*]; done))) | (refine aops_guardU rfl ?_ ?_; (focus (simp [*]; done)))); (first | refine aput_some (by decide) ?_ | refine aput_none ?_)))
  ((try simp [*]); (try simp (discharger := omega) only [wrap_i64, dec_t, dec_f]))
  rename_i c2 M hM
  exact .same ⟨c2, M, hM, rfl, rfl⟩
theorem insNilT (σ : St) : Tri Tryd.prog 72 [.lst false 7 [], .i 0, .i 0, .fn (.func 43) [] []] σ fun d τ => d = .tup [] ∧ τ = σ := by
  refine tri_fn Tryd.func72 rfl Tryd.ntmps72 Tryd.results72 (Nat.le_of_ble_eq_true rfl) ?_
  refine' wlk0
  refine awp_loopM [8, 9, 12, 13, 14, 15, 16, 17, 18, 19, 20, 21, 22, 23, 24, 25, 26, 27, 28, 29, 30, 31, 32, 33, 34, 35, 36, 37, 38, 39, 40, 41, 42, 43, 44, 45, 46, 47, 48, 49, 50, 51, 52] (fun X τ => X 8 = .i 1 ∧ τ = σ) (fun X _ => 0) ?_ ?_
  · exact .same ⟨mix_self _ _, by simp [*], rfl⟩
  · rintro X τ ⟨h8, rfl⟩ _ hL
    refine' wlk0
    ((try simp [*]); (try simp (discharger := omega) only [wrap_i64, dec_t, dec_f]))
    exact .same ⟨rfl, rfl⟩
theorem stableNilT (σ : St) : Tri Tryd.prog 65 [.lst false 7 [], .i 0, .fn (.func 43) [] []] σ fun d τ => d = .tup [] ∧ τ = σ := by
  have IN := Lib.hid insNilT
  refine tri_fn Tryd.func65 rfl Tryd.ntmps65 Tryd.results65 (Nat.le_of_ble_eq_true rfl) ?_
  refine' wlk0
  refine awp_loopM [7, 8, 11, 12, 13, 14, 15, 16, 17, 18, 19, 20, 21, 22] (fun X τ => X 7 = .i 0 ∧ X 8 = .i 20 ∧ τ = σ) (fun X _ => 0) ?_ ?_
  · exact .same ⟨mix_self _ _, by simp [*], by simp [*], rfl⟩
  · rintro X τ ⟨h7, h8, rfl⟩ _ hL
    refine' wlk1 IN.out
    refine awp_loopM [6, 7, 8, 9, 28, 29, 30, 31, 32, 33, 34, 35, 36, 37, 38, 39, 40, 41, 42, 43, 44, 45, 46, 47, 48, 49, 50, 51, 52, 53, 54, 55, 56, 57, 58, 59, 60, 61, 62] (fun X τ' => X 6 = .i 20 ∧ τ' = τ) (fun X _ => 0) ?_ ?_
    · exact .same ⟨mix_self _ _, by simp [*], rfl⟩
    · rintro X τ ⟨h6, rfl⟩ _ hL
      refine' wlk0
      ((try simp [*]); (try simp (discharger := omega) only [wrap_i64, dec_t, dec_f]))
      exact .same ⟨rfl, rfl⟩
theorem sortNilT (σ : St) : Tri Tryd.prog 42 [.lst false 7 [], .fn (.func 43) [] []] σ fun d τ => d = .tup [] ∧ τ = σ := by
  have IN := Lib.hid stableNilT
  refine tri_fn Tryd.func42 rfl Tryd.ntmps42 Tryd.results42 (Nat.le_of_ble_eq_true rfl) ?_
  refine' wlk1 IN.out
  ((try simp [*]); (try simp (discharger := omega) only [wrap_i64, dec_t, dec_f]))
  exact .same ⟨rfl, rfl⟩
end Go.Proofs.YtmjendeigjdihaaDoor
/-
  Values (chapter 1): lists copied.
-/
namespace Go.Proofs.YtmjendeigjdihaaDoor
open Go.RowKit
set_option maxRecDepth 100000
set_option linter.unusedVariables false
set_option linter.unusedSimpArgs false
attribute [local irreducible] awp aops aop aput aseq ablock TriX Tri Ret Fresh dq adraw dtail dals dfin Wk

theorem cloneVT (fl : Bool) (ds : List (List D)) (hb : ds.length * 88 ≤ 140737488355328) (σ : St) : Tri Tryd.prog 52 [.lst fl 6 ds] σ fun d τ => ArrO σ 38 6 ds d τ := by
  rcases ds with _ | ⟨c, r⟩
  · refine tri_fn Tryd.func52 rfl Tryd.ntmps52 Tryd.results52 (Nat.le_of_ble_eq_true rfl) ?_
    refine' wlk0
    refine aops_cons (fun _ hO => ?_)
    simp
    refine ⟨hO.out _ _ ?_, hO.out _ _ ?_⟩
    · clear hO
      refine aput_some (by decide) ?_
      refine' wlk0
      ((try simp [*]); (try simp (discharger := omega) only [wrap_i64, dec_t, dec_f]))
      exact .mk _ σ (.nil _ _) leT (.inl ⟨rfl, rfl, rfl⟩)
    · clear hO
      refine aput_some (by decide) ?_
      refine' wlk0
      ((try simp [*]); (try simp (discharger := omega) only [wrap_i64, dec_t, dec_f]))
      exact .mk _ σ (.lst _ _ _ _) leT (.inl ⟨rfl, rfl, rfl⟩)
  · refine tri_fn Tryd.func52 rfl Tryd.ntmps52 Tryd.results52 (Nat.le_of_ble_eq_true rfl) ?_
    have hb2 : r.length * 88 + 88 ≤ 140737488355328 := by
      rw [List.length_cons] at hb
      omega
    clear hb
    refine' wlkO0
    ((try simp [*]); (try simp (discharger := omega) only [wrap_i64, dec_t, dec_f]))
    exact .same (.inr ⟨_, _, by assumption, by simp, by simpa, rfl, rfl⟩)
theorem cloneMT (fl : Bool) (ds : List (List D)) (hb : ds.length * 104 ≤ 140737488355328) (σ : St) : Tri Tryd.prog 53 [.lst fl 7 ds] σ fun d τ => ArrO σ 45 7 ds d τ := by
  rcases ds with _ | ⟨c, r⟩
  · refine tri_fn Tryd.func53 rfl Tryd.ntmps53 Tryd.results53 (Nat.le_of_ble_eq_true rfl) ?_
    refine' wlk0
    refine aops_cons (fun _ hO => ?_)
    simp
    refine ⟨hO.out _ _ ?_, hO.out _ _ ?_⟩
    · clear hO
      refine aput_some (by decide) ?_
      refine' wlk0
      ((try simp [*]); (try simp (discharger := omega) only [wrap_i64, dec_t, dec_f]))
      exact .mk _ σ (.nil _ _) leT (.inl ⟨rfl, rfl, rfl⟩)
    · clear hO
      refine aput_some (by decide) ?_
      refine' wlk0
      ((try simp [*]); (try simp (discharger := omega) only [wrap_i64, dec_t, dec_f]))
      exact .mk _ σ (.lst _ _ _ _) leT (.inl ⟨rfl, rfl, rfl⟩)
  · refine tri_fn Tryd.func53 rfl Tryd.ntmps53 Tryd.results53 (Nat.le_of_ble_eq_true rfl) ?_
    have hb2 : r.length * 104 + 104 ≤ 140737488355328 := by
      rw [List.length_cons] at hb
      omega
    clear hb
    refine' wlkO0
    ((try simp [*]); (try simp (discharger := omega) only [wrap_i64, dec_t, dec_f]))
    exact .same (.inr ⟨_, _, by assumption, by simp, by simpa, rfl, rfl⟩)
end Go.Proofs.YtmjendeigjdihaaDoor
