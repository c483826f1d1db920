/-
  IdentIs.
-/
import Derived.Test.YtmohbbmokcnbhaaDoorIdentIsR
namespace Go.Proofs.YtmohbbmokcnbhaaDoor
open Go.RowKit
set_option maxRecDepth 100000
set_option linter.unusedVariables false
set_option linter.unusedSimpArgs false

set_option maxHeartbeats 8000000 in
theorem is4_few (k : Int) (s : ByteArray) (h300 : s.size ≤ 300) (w : World) (hG : ErrT w) :
    Calls Tryd.prog 4 #[.int .i64 k, .string s] w fun e w' => e = .returned (.bool true) ∧ Below w.heap.size w w' := by
  have h0 := awake4_any w
  have HG := Lib.hid hG
  have hml : s.size ≤ maxLen := by unfold maxLen; omega
  have h2 := fun W : World => refIs_any k s W (by omega)
  have h3 := fun W : World => is_any k s W hml
  cases hb : isB k s with
  | true =>
    have h1 := fun W : World => check_yes k s W hml hb
    rw [hb] at h2 h3
    clear hG hml hb
    go_enter Tryd.func4, Tryd.ntmps4
    go_wp2_with fail
    refine h0.mono ?_
    rintro e w1 ⟨rfl, hb1⟩
    clear h0
    go_wp2_with fail
    refine (h1 _).mono ?_
    rintro e w2 ⟨rfl, hb2⟩
    clear h1
    go_wp2_with fail
    refine (h2 _).mono ?_
    rintro e w3 ⟨rfl, hb3⟩
    clear h2
    go_wp2_with fail
    refine (h3 _).mono ?_
    rintro e w4 ⟨rfl, hb4⟩
    clear h3
    go_wp2_with fail
    go_ret
    have b2 := hb1.trans (hb2.mono hb1.size)
    have b3 := b2.trans (hb3.mono b2.size)
    exact ⟨rfl, b3.trans (hb4.mono b3.size)⟩
  | false =>
    have h1 := fun W : World => check_no k s W hml hb
    rw [hb] at h2 h3
    clear hG hml hb
    go_enter Tryd.func4, Tryd.ntmps4
    go_wp2_with fail
    refine h0.mono ?_
    rintro e w1 ⟨rfl, hb1⟩
    clear h0
    go_wp2_with fail
    refine (h1 _).mono ?_
    rintro e w2 ⟨q, rfl, hq2, hb2, hqge⟩
    clear h1
    go_wp2_with fail
    refine (h2 _).mono ?_
    rintro e w3 ⟨rfl, hb3⟩
    clear h2
    go_wp2_with fail
    refine (h3 _).mono ?_
    rintro e w4 ⟨rfl, hb4⟩
    clear h3
    have hB4 : Below w.heap.size w w4 := by
      have b2 := hb1.trans (hb2.mono hb1.size)
      have b3 := b2.trans (hb3.mono b2.size)
      exact b3.trans (hb4.mono b3.size)
    have hq4 : FaultAt w4 q 0 (wordB k) (.iface 41 (.int .i64 7)) := (hb4.block q (by have := hb3.block q (blk_lt hq2); exact blk_lt (this.trans hq2))).trans ((hb3.block q (blk_lt hq2)).trans hq2)
    go_upto_region 10 with fail
    have hq : FaultAt (w4.alloc (.cells #[.pointer none] 39)) q 0 (wordB k) (.iface 41 (.int .i64 7)) := (heap_alloc_old _ _ (blk_lt hq4)).trans hq4
    have hcf : (w4.alloc (.cells #[.pointer none] 39)).heap[w4.heap.size]? = some (.cells #[.pointer none] 39 (0, 0)) := heap_alloc_new _ _
    have hqf : q ≠ w4.heap.size := by have := blk_lt hq4; omega
    have hf0 : w4.heap.size ≠ 0 := by have := blk_lt hq4; omega
    have hG2 : ErrT (w4.alloc (.cells #[.pointer none] 39)) := (HG.out.below hB4).below ((Below.refl _ _).alloc (Nat.le_refl _) _)
    have hB5 : Below w.heap.size w (w4.alloc (.cells #[.pointer none] 39)) := hB4.alloc hB4.size _
    have hsz4 := hB4.size
    generalize w4.alloc (.cells #[.pointer none] 39) = W0 at hq hcf hG2 hB5 ⊢
    obtain ⟨f, hf⟩ : ∃ f, f = w4.heap.size := ⟨_, rfl⟩
    rw [← hf] at hcf hqf hf0 hsz4 ⊢
    refine wp_name ?_
    intro a0 ha0
    have e5 : a0.eval (.tmp 5) = .iface 39 (.pointer (some ⟨q, 0, none⟩)) := by rw [ha0]; rfl
    have e7 : a0.eval (.tmp 7) = .pointer (some ⟨f, 0, none⟩) := by rw [ha0]; rfl
    have e0 : a0.eval (.tmp 0) = .int .i64 k := by rw [ha0]; rfl
    have hsz : 57 < a0.tmps.size := by rw [ha0]; exact Nat.le_of_ble_eq_true rfl
    refine wp_region_frameG rfl [34, 35, 36, 37, 38, 39, 40, 41, 42, 43, 44, 45, 46, 47, 48, 49, 50, 51, 52, 53, 54, 55, 56, 57, 4] (by decide) (fun t ht => by simp at ht; omega) (IsInv W0 q f k) ?_ ?_ ?_ ?_ ?_ ?_
    · intro i o ho
      rcases i with _ | _ | _ | _ | _ | _ | _ | _ | _ | _ | _ | _ | _ | _ | _ | _ | _ | _ | _ | _ | _ | _ | _ | _ | _ | i <;> first | (injection ho with ho; subst ho; rfl) | (simp at ho)
    · intro L vs w' hI i o j b ho hgd hLi haf
      rcases i with _ | _ | _ | _ | _ | _ | _ | _ | _ | _ | _ | _ | _ | _ | _ | _ | _ | _ | _ | _ | _ | _ | _ | _ | _ | i <;> first | (injection ho with ho; subst ho; simp at hgd; done) | (injection ho with ho; subst ho; injection hgd with hgd; injection hgd with x1 x2; subst x1 x2; exact ⟨by decide, by decide, hI.vals _ (haf ⟨_, .guard⟩ (by simp) rfl)⟩) | (simp at ho)
    · intro i o ho
      rcases i with _ | _ | _ | _ | _ | _ | _ | _ | _ | _ | _ | _ | _ | _ | _ | _ | _ | _ | _ | _ | _ | _ | _ | _ | _ | i <;> first | (injection ho with ho; subst ho; simp) | (simp at ho)
    · exact ⟨by simp, ⟨rfl, rfl, rfl, Nat.le_refl _, fun _ _ _ => rfl⟩, hcf, by simp⟩
    · intro L vs w' hI jj o ho hLi haf K hK
      rcases jj with _ | _ | _ | _ | _ | _ | _ | _ | _ | _ | _ | _ | _ | _ | _ | _ | _ | _ | _ | _ | _ | _ | _ | _ | _ | jj
      · injection ho with ho; subst ho
        refine BigFrame.wp_move (.tmp 5) rfl ?_
        rw [frameAt_out _ _ _ _ rfl, e5]
        exact hK _ _ (hI.pure 0 (by decide) (fun h => by simp at h))
      · injection ho with ho; subst ho
        exact wp_ifaceI 41 _ _ _ rfl rfl (mk_code7 w') (hK _ _ (hI.pure 1 (by decide) (fun h => by simp at h)))
      · injection ho with ho; subst ho
        have l0 := haf ⟨0, .data⟩ (by simp) rfl
        have l1 := haf ⟨1, .data⟩ (by simp) rfl
        refine wp_call_fnI 14 _ _ rfl Tryd.func14 (by kernel_rfl) (by kernel_rfl) (R := fun v w'' => v = .bool true ∧ w'' = w') ?_ (fun v w'' h => by obtain ⟨rfl, rfl⟩ := h; exact hK _ _ (hI.pure 2 (by decide) (fun h => by simp at h)))
        simp only [List.map_toArray, List.map_cons, List.map_nil]
        rw [frameAt_in _ _ _ 34 0 rfl (by omega), hI.vals 0 l0, frameAt_in _ _ _ 35 1 rfl (by omega), hI.vals 1 l1]
        exact (errors_Is_fault q 0 (wordB k) 7 w' (hI.fault hq hqf)).mono fun ev w'' h => ⟨.bool true, h.1, rfl, h.2.symm⟩
      · injection ho with ho; subst ho
        have l2 := haf ⟨2, .data⟩ (by simp) rfl
        refine BigFrame.wp_move (.tmp 36) rfl ?_
        rw [frameAt_in _ _ _ 36 2 rfl (by omega), hI.vals 2 l2]
        exact hK _ _ (hI.pure 3 (by decide) (fun h => by simp at h))
      · injection ho with ho; subst ho
        refine BigFrame.wp_move (.tmp 5) rfl ?_
        rw [frameAt_out _ _ _ _ rfl, e5]
        exact hK _ _ (hI.pure 4 (by decide) (fun h => by simp at h))
      · injection ho with ho; subst ho
        exact wp_ifaceI 43 (.tmp 7) _ _ rfl (by rw [frameAt_out _ _ _ _ rfl]; exact e7) (mk_ptr f w') (hK _ _ (hI.pure 5 (by decide) (fun h => by simp at h)))
      · injection ho with ho; subst ho
        have l4 := haf ⟨4, .data⟩ (by simp) rfl
        have l5 := haf ⟨5, .data⟩ (by simp) rfl
        refine wp_call_fnI 15 _ _ rfl Tryd.func15 (by kernel_rfl) (by kernel_rfl) (R := fun v w'' => v = .bool true ∧ w''.heap[f]? = some (.cells #[.pointer (some ⟨q, 0, none⟩)] 39 (0, 0)) ∧ w'.grownBy w'' (some f)) ?_ (fun v w'' h => by obtain ⟨rfl, h1, h2⟩ := h; exact hK _ _ (hI.hit hLi h1 h2))
        simp only [List.map_toArray, List.map_cons, List.map_nil]
        rw [frameAt_in _ _ _ 38 4 rfl (by omega), hI.vals 4 l4, frameAt_in _ _ _ 39 5 rfl (by omega), hI.vals 5 l5]
        have hcell := hI.cell
        rw [hLi] at hcell
        exact (as_hit_fault' ⟨q, 0, none⟩ f (.pointer none) w' (hI.errT hG2 hf0) hcell).mono fun ev w'' h => ⟨.bool true, h.1, rfl, h.2⟩
      · injection ho with ho; subst ho
        have l3 := haf ⟨3, .data⟩ (by simp) rfl
        have l6 := haf ⟨6, .data⟩ (by simp) rfl
        exact wp_pickI (.tmp 37) (.tmp 40) (.const (.bool false)) _ rfl ((frameAt_in _ _ _ 37 3 rfl (by omega)).trans (hI.vals 3 l3)) ((frameAt_in _ _ _ 40 6 rfl (by omega)).trans (hI.vals 6 l6)) (hK _ _ (hI.pure 7 (by decide) (fun _ => l6)))
      · injection ho with ho; subst ho
        have l7 := haf ⟨7, .data⟩ (by simp) rfl
        refine BigFrame.wp_move (.tmp 41) rfl ?_
        rw [frameAt_in _ _ _ 41 7 rfl (by omega), hI.vals 7 l7]
        exact hK _ _ (hI.pure 8 (by decide) (fun _ => hI.cl 7 (.inl rfl) l7))
      · injection ho with ho; subst ho
        have l8 := haf ⟨8, .guard⟩ (by simp) rfl
        have l6 := hI.cl 8 (by simp) l8
        have hcell := hI.cell
        rw [l6] at hcell
        exact wp_loadI 39 (.tmp 7) _ _ rfl (by rw [frameAt_out _ _ _ _ rfl]; exact e7) (load_oneF (by rw [blk_cell hcell]; rfl)) (hK _ _ (hI.pure 9 (by decide) (fun h => by simp at h)))
      · injection ho with ho; subst ho
        have l9 := haf ⟨9, .data⟩ (by simp) rfl
        exact wp_nilI (.tmp 43) ⟨q, 0, none⟩ rfl ((frameAt_in _ _ _ 43 9 rfl (by omega)).trans (hI.vals 9 l9)) (hK _ _ (hI.pure 10 (by decide) (fun h => by simp at h)))
      · injection ho with ho; subst ho
        have l10 := haf ⟨10, .data⟩ (by simp) rfl
        exact wp_fieldI 45 (.tmp 44) 0 _ _ rfl ((frameAt_in _ _ _ 44 10 rfl (by omega)).trans (hI.vals 10 l10)) (field_f0 q w') (hK _ _ (hI.pure 11 (by decide) (fun h => by simp at h)))
      · injection ho with ho; subst ho
        have l11 := haf ⟨11, .data⟩ (by simp) rfl
        exact wp_loadI 3 (.tmp 45) ⟨q, 0, none⟩ _ rfl ((frameAt_in _ _ _ 45 11 rfl (by omega)).trans (hI.vals 11 l11)) (load_oneI (by rw [blk_cell (hI.fault hq hqf)]; rfl)) (hK _ _ (hI.pure 12 (by decide) (fun h => by simp at h)))
      · injection ho with ho; subst ho
        have l12 := haf ⟨12, .data⟩ (by simp) rfl
        exact wp_binI .eql 3 (.tmp 46) (.const (.int .i64 0)) _ _ _ _ rfl ((frameAt_in _ _ _ 46 12 rfl (by omega)).trans (hI.vals 12 l12)) rfl (eql_00 w') (hK _ _ (hI.pure 13 (by decide) (fun h => by simp at h)))
      · injection ho with ho; subst ho
        have l8 := haf ⟨8, .data⟩ (by simp) rfl
        have l13 := haf ⟨13, .data⟩ (by simp) rfl
        exact wp_pickI (.tmp 42) (.tmp 47) (.const (.bool false)) _ rfl ((frameAt_in _ _ _ 42 8 rfl (by omega)).trans (hI.vals 8 l8)) ((frameAt_in _ _ _ 47 13 rfl (by omega)).trans (hI.vals 13 l13)) (hK _ _ (hI.pure 14 (by decide) (fun _ => hI.cl 8 (.inr (.inl rfl)) l8)))
      · injection ho with ho; subst ho
        have l14 := haf ⟨14, .data⟩ (by simp) rfl
        refine BigFrame.wp_move (.tmp 48) rfl ?_
        rw [frameAt_in _ _ _ 48 14 rfl (by omega), hI.vals 14 l14]
        exact hK _ _ (hI.pure 15 (by decide) (fun _ => hI.cl 14 (.inr (.inr (.inl rfl))) l14))
      · injection ho with ho; subst ho
        have l15 := haf ⟨15, .guard⟩ (by simp) rfl
        have l6 := hI.cl 15 (by simp) l15
        have hcell := hI.cell
        rw [l6] at hcell
        exact wp_loadI 39 (.tmp 7) _ _ rfl (by rw [frameAt_out _ _ _ _ rfl]; exact e7) (load_oneF (by rw [blk_cell hcell]; rfl)) (hK _ _ (hI.pure 16 (by decide) (fun h => by simp at h)))
      · injection ho with ho; subst ho
        have l16 := haf ⟨16, .data⟩ (by simp) rfl
        exact wp_nilI (.tmp 50) ⟨q, 0, none⟩ rfl ((frameAt_in _ _ _ 50 16 rfl (by omega)).trans (hI.vals 16 l16)) (hK _ _ (hI.pure 17 (by decide) (fun h => by simp at h)))
      · injection ho with ho; subst ho
        have l17 := haf ⟨17, .data⟩ (by simp) rfl
        exact wp_fieldI 45 (.tmp 51) 1 _ _ rfl ((frameAt_in _ _ _ 51 17 rfl (by omega)).trans (hI.vals 17 l17)) (field_f1 q w') (hK _ _ (hI.pure 18 (by decide) (fun h => by simp at h)))
      · injection ho with ho; subst ho
        have l18 := haf ⟨18, .data⟩ (by simp) rfl
        exact wp_loadI 9 (.tmp 52) ⟨q, 1, none⟩ _ rfl ((frameAt_in _ _ _ 52 18 rfl (by omega)).trans (hI.vals 18 l18)) (load_oneS (by rw [blk_cell (hI.fault hq hqf)]; rfl)) (hK _ _ (hI.pure 19 (by decide) (fun h => by simp at h)))
      · injection ho with ho; subst ho
        refine BigFrame.wp_move (.tmp 0) rfl ?_
        rw [frameAt_out _ _ _ _ rfl, e0]
        exact hK _ _ (hI.pure 20 (by decide) (fun h => by simp at h))
      · injection ho with ho; subst ho
        have l20 := haf ⟨20, .data⟩ (by simp) rfl
        refine wp_call_fnI 16 _ _ rfl Tryd.func16 (by kernel_rfl) (by kernel_rfl) (R := fun v w'' => v = .string (wordB k) ∧ w'' = w') ?_ (fun v w'' h => by obtain ⟨rfl, rfl⟩ := h; exact hK _ _ (hI.pure 21 (by decide) (fun h => by simp at h)))
        simp only [List.map_toArray, List.map_cons, List.map_nil]
        rw [frameAt_in _ _ _ 54 20 rfl (by omega), hI.vals 20 l20]
        exact (refWord_any k w').mono fun ev w'' h => ⟨_, h.1, rfl, h.2.symm⟩
      · injection ho with ho; subst ho
        have l19 := haf ⟨19, .data⟩ (by simp) rfl
        have l21 := haf ⟨21, .data⟩ (by simp) rfl
        exact wp_binI .eql 9 (.tmp 53) (.tmp 55) _ _ _ _ rfl ((frameAt_in _ _ _ 53 19 rfl (by omega)).trans (hI.vals 19 l19)) ((frameAt_in _ _ _ 55 21 rfl (by omega)).trans (hI.vals 21 l21)) (eql_ww k w') (hK _ _ (hI.pure 22 (by decide) (fun h => by simp at h)))
      · injection ho with ho; subst ho
        have l15 := haf ⟨15, .data⟩ (by simp) rfl
        have l22 := haf ⟨22, .data⟩ (by simp) rfl
        exact wp_pickI (.tmp 49) (.tmp 56) (.const (.bool false)) _ rfl ((frameAt_in _ _ _ 49 15 rfl (by omega)).trans (hI.vals 15 l15)) ((frameAt_in _ _ _ 56 22 rfl (by omega)).trans (hI.vals 22 l22)) (hK _ _ (hI.pure 23 (by decide) (fun h => by simp at h)))
      · injection ho with ho; subst ho
        have l23 := haf ⟨23, .data⟩ (by simp) rfl
        refine BigFrame.wp_assign (.tmp 57) rfl ?_
        rw [frameAt_in _ _ _ 57 23 rfl (by omega), hI.vals 23 l23]
        exact hK _ _ (hI.pure 24 (by decide) (fun h => by simp at h))
      · simp at ho
    · intro L vs w' hI hall
      have h24 := hI.vals 24 (hall 24 (by decide))
      have hB6 : Below w.heap.size w w' := hB5.grown hI.grown hB5.size (fun k hk => by injection hk with hk; omega)
      rw [frameAt_putAll a0 _ (by decide) vs, ha0]
      change vs 24 = .bool true at h24
      simp only [putAll, h24, Nat.reduceAdd]
      clear hI hall h24 e0 e5 e7 hsz ha0
      change Exit.then _ _ .normal (Act.put (Act.mk _ _) _ _) w'
      simp only [Act.put, List.setIfInBounds_toArray, List.set_cons_succ, List.set_cons_zero]
      go_wp2_with fail
      go_ret
      exact ⟨rfl, hB6⟩

set_option maxHeartbeats 4000000 in
theorem is4_any (k : Int) (hk : (Lit.int .i64 k).wf = true) (s : ByteArray) (hs : s.size ≤ maxLen) (w : World) (hG : ErrT w) :
    Calls Tryd.prog 4 #[.int .i64 k, .string s] w fun e w' => e = .returned (.bool true) ∧ Below w.heap.size w w' := by
  by_cases h300 : s.size ≤ 300
  · exact is4_few k s h300 w hG
  · have h0 := awake4_any w
    have hs' : s.size ≤ 9223372036854775807 := by unfold maxLen at hs; omega
    clear hs hG hk
    go_enter Tryd.func4, Tryd.ntmps4
    go_wp2_with fail
    refine h0.mono ?_
    rintro e w1 ⟨rfl, hb1⟩
    have h2 := awake4_any w1
    clear h0
    go_wp2_with fail
    refine h2.mono ?_
    rintro e w2 ⟨rfl, hb2⟩
    clear h2
    go_wp2_with fail
    go_ret
    exact ⟨rfl, hb1.trans (hb2.mono hb1.size)⟩

end Go.Proofs.YtmohbbmokcnbhaaDoor
