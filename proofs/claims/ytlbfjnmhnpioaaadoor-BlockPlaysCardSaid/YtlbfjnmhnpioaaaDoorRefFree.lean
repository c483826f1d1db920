import Derived.Test.YtlbfjnmhnpioaaaDoorRefGrow
namespace Go.Proofs.YtlbfjnmhnpioaaaDoor
open Go.RowKit
set_option maxRecDepth 100000
set_option linter.unusedVariables false

def bumpD (d : DV) : DV := { d with fuse := if 0 < d.fuse then d.fuse - 1 else d.fuse, steps := d.steps + 1 }

set_option maxRecDepth 100000 in
set_option maxHeartbeats 800000 in
theorem refWrite_free (d : DV) (s : Value) (ws : List WV) (hb : d.r.b.length = 64) (hs : s.oneCell' = true) (i : Int) (A : Option Addr) (b : List UInt8) (c : Nat) (h64 : b.length ≤ 64) (hr : 0 ≤ i ∧ i < d.n) (hdd : d.dead = false) (hf : d.fuse ≠ 0)
    (hfb : -1 ≤ d.fuse ∧ d.fuse ≤ 9223372036854775807) (hst : 0 ≤ d.steps ∧ d.steps < 1000000) (hn : ws.length ≤ 100000) (w : World) (hA : BytesAt w A b) (hLs : LAt w s ws) :
    Calls Tryd.prog 10 #[.agg (d.cells s).toArray, .int .i64 i, .slice A b.length c] w fun e w' => ∃ s', e = .returned (.tuple #[.agg ((bumpD d).cells s').toArray, .int .i64 0]) ∧ s'.oneCell' = true ∧ LAt w' s' (ws ++ [⟨i, fill64 b, 64⟩]) ∧ Below w.heap.size w w' := by
  have HLS := Lib.hid hLs
  clear hLs
  have hz := zero_D
  have hzW := zero_W
  obtain ⟨hB1, hD1, hZ1, hS1⟩ := start_D w d s
  generalize hC : (d.cells s).toArray = C at hB1 hD1 hZ1 hS1 ⊢
  go_enter Tryd.func10, Tryd.ntmps10
  go_upto_region 1 with fail
  clear hz
  generalize ((w.alloc (.cells C 35)).alloc (.cells ZD 35)) = W1 at hB1 hD1 hZ1 hS1 ⊢
  have c0 : W1.cell? ⟨w.heap.size, 0, none⟩ = some (.int .i64 d.n) := by rw [hD1.cell, d.get0 s]
  have HD1 := Lib.hid hD1
  have HZ1 := Lib.hid hZ1
  have HC := Lib.hid hC
  have HS1 := Lib.hid hS1
  have HA := Lib.hid hA
  have HDD := Lib.hid hdd
  have HF := Lib.hid hf
  clear hdd hf
  obtain ⟨hr1, hr2⟩ := hr
  clear hD1 hZ1 hC hS1 hA
  go_upto_region 5 with fail
  generalize hK : (blankW i).cells.toArray = K
  go_wp2_with (first | (refine store_newW (blankW i) (by simp [blankW]) rfl (.tmp 8) (.tmp 24) rfl rfl (by rw [hK]; rfl) ?_) | (refine wpList_build_eq rfl 33 #[(0, .tmp 23), (2, .const (.int .i64 64))] rfl _ rfl K (hK ▸ built_W i) ?_))
  intro X hX hBX hSX
  have hDX := HD1.out.below hBX
  have hZX : ZAt X (w.heap.size + 1) := (hBX.block _ (blk_lt HZ1.out)).trans HZ1.out
  have hBw : Below w.heap.size w X := hB1.trans (hBX.mono hB1.size)
  have HDX := Lib.hid hDX
  have HZX := Lib.hid hZX
  have HX := Lib.hid hX
  clear hK hDX hZX hX hzW c0
  go_wp2_with fail
  go_loopw [27] (fun i' wq => ∃ j : Nat, j ≤ b.length ∧ i' = .int .i64 j ∧ Below w.heap.size w wq ∧ Hid (DAt wq w.heap.size d s) ∧ Hid (ZAt wq (w.heap.size + 1)) ∧ Hid (WAt wq W1.heap.size ⟨i, partB b j, 64⟩)) (fun i' _ => b.length - (intOf i').toNat)
  case atStart => exact ⟨0, Nat.zero_le _, rfl, hBw, HDX, HZX, HX⟩
  case round =>
    obtain ⟨j, hj, rfl, hq, hqD, hqZ, hqW⟩ := hrel
    by_cases hlt : j < b.length
    · obtain ⟨u, hu⟩ : ∃ u, b[j]? = some u := ⟨_, List.getElem?_eq_getElem hlt⟩
      obtain ⟨a, rfl, ha⟩ : ∃ a, A = some a ∧ ∀ j v, (bytesV b)[j]? = some v → w.cell? (a.add j) = some v := by
        rcases HA.out with h | h
        · subst h; simp at hlt
        · exact h
      have hau := ha j (.int .u8 u.toNat) (by simp [bytesV, hu])
      have ca : wr.cell? (a.add j) = some (.int .u8 u.toNat) := (hq.cell (World.block_lt_of_cell? w _ hau)).trans hau
      have cw := hqW.out.cellB j 0 (partB_next b j hlt h64)
      have fw := blk_frozen hqW.out (1 + j)
      have HU := Lib.hid hu
      clear ha hau hu
      go_wp2_with fail
      go_roundw
      case rel =>
        have hs1 := HS1.out
        refine ⟨j + 1, by omega, by go_num, hq.setCell (by show w.heap.size ≤ W1.heap.size; omega) _, Lib.hid ?_, Lib.hid ?_, Lib.hid ?_⟩
        · exact (Below.heap_setCell _ ⟨W1.heap.size, 1 + j, none⟩ _ _ (by show w.heap.size ≠ W1.heap.size; omega)).trans hqD.out
        · exact (Below.heap_setCell _ ⟨W1.heap.size, 1 + j, none⟩ _ _ (by show w.heap.size + 1 ≠ W1.heap.size; omega)).trans hqZ.out
        · have := hqW.out.byte (len_partB b j (by omega) h64) j (by omega) u
          rw [partB_set b j h64 u HU.out] at this
          exact this
      case measure => simp [intOf]; omega
    · have hjb : j = b.length := by omega
      subst hjb
      have c68 : wr.cell? ⟨w.heap.size, 68, none⟩ = some (.bool false) := by rw [hqD.out.cell, d.get68 s hb, HDD.out]
      have c69 : wr.cell? ⟨w.heap.size, 69, none⟩ = some (.int .i64 d.fuse) := by rw [hqD.out.cell, d.get69 s hb]
      have c70 : wr.cell? ⟨w.heap.size, 70, none⟩ = some (.int .i64 d.steps) := by rw [hqD.out.cell, d.get70 s hb]
      have f69 := blk_frozen hqD.out 69
      have f70 := blk_frozen hqD.out 70
      have hfz : (d.fuse == 0) = false := by rw [beq_eq_false_iff_ne]; exact HF.out
      rw [partB_all] at hqW
      have hBk : W1.heap.size ≠ w.heap.size ∧ W1.heap.size ≠ w.heap.size + 1 := by have := HS1.out; omega
      have hLr : LAt wr s ws := by
        refine row_keep HLS.out fun q hq' => ?_
        obtain ⟨_, cur, hc⟩ := row_at HLS.out hq'
        exact hq.block q (blk_lt hc)
      have HLR := Lib.hid hLr
      clear hLr
      by_cases hp : 0 < d.fuse
      case' pos =>
        go_upto_region 19 with fail
        have hD2 : DAt ((wr.setCell ⟨w.heap.size, 69, none⟩ (.int .i64 (d.fuse - 1))).setCell ⟨w.heap.size, 70, none⟩ (.int .i64 (d.steps + 1))) w.heap.size (bumpD d) s := by
          have := (hqD.out.fuse hb (d.fuse - 1)).steps hb (d.steps + 1)
          unfold bumpD
          rw [if_pos hp]
          exact this
        have hG2 : wr.grownBy ((wr.setCell ⟨w.heap.size, 69, none⟩ (.int .i64 (d.fuse - 1))).setCell ⟨w.heap.size, 70, none⟩ (.int .i64 (d.steps + 1))) (some w.heap.size) :=
          ⟨rfl, rfl, rfl, by simp, fun q hq hne => (Below.heap_setCell _ ⟨w.heap.size, 70, none⟩ _ q (fun e => hne (by rw [e]))).trans (Below.heap_setCell _ ⟨w.heap.size, 69, none⟩ _ q (fun e => hne (by rw [e])))⟩
        generalize ((wr.setCell ⟨w.heap.size, 69, none⟩ (.int .i64 (d.fuse - 1))).setCell ⟨w.heap.size, 70, none⟩ (.int .i64 (d.steps + 1))) = W2 at hD2 hG2 ⊢
      case' neg =>
        go_upto_region 19 with fail
        have hD2 : DAt (wr.setCell ⟨w.heap.size, 70, none⟩ (.int .i64 (d.steps + 1))) w.heap.size (bumpD d) s := by
          have := hqD.out.steps hb (d.steps + 1)
          unfold bumpD
          rw [if_neg hp]
          exact this
        have hG2 : wr.grownBy (wr.setCell ⟨w.heap.size, 70, none⟩ (.int .i64 (d.steps + 1))) (some w.heap.size) :=
          ⟨rfl, rfl, rfl, by simp, fun q hq hne => Below.heap_setCell _ ⟨w.heap.size, 70, none⟩ _ q (fun e => hne (by rw [e]))⟩
        generalize (wr.setCell ⟨w.heap.size, 70, none⟩ (.int .i64 (d.steps + 1))) = W2 at hD2 hG2 ⊢
      all_goals
        have hW2 : WAt W2 W1.heap.size ⟨i, fill64 b, 64⟩ := (hG2.block _ (blk_lt hqW.out) (fun e => hBk.1 (Option.some.inj e))).trans hqW.out
        have hZ2 : ZAt W2 (w.heap.size + 1) := (hG2.block _ (blk_lt hqZ.out) (fun e => by injection e with e; omega)).trans hqZ.out
        have hL2 : LAt W2 s ws := by
          refine row_keep HLR.out fun q hq' => ?_
          obtain ⟨_, cur, hc⟩ := row_at HLR.out hq'
          exact hG2.block q (blk_lt hc) (fun e => types_ne hc hqD.out (by decide) (Option.some.inj e))
        have hB2 : Below w.heap.size w W2 := hq.grown hG2 hq.size (fun k hk => by injection hk with hk; omega)
        refine wp_name ?_
        intro a0 ha0
        have e3 : a0.eval (.tmp 3) = .pointer (some ⟨w.heap.size, 0, none⟩) := by rw [ha0]; rfl
        have e8 : a0.eval (.tmp 8) = .pointer (some ⟨W1.heap.size, 0, none⟩) := by rw [ha0]; rfl
        have hsz : 70 < a0.tmps.size := by rw [ha0]; exact Nat.le_of_ble_eq_true rfl
        have hxb : (⟨i, fill64 b, 64⟩ : WV).b.length = 64 := len_fill64 b h64
        generalize hx0 : (⟨i, fill64 b, 64⟩ : WV) = x0 at hW2 hxb ⊢
        refine wp_region_frame rfl [63, 64, 65, 66, 67, 68, 69, 70] (by decide) (GrowInv W2 w.heap.size W1.heap.size (bumpD d) s ws x0) ?_ ?_ ?_ ?_ ?_ ?_
        · intro i o ho
          rcases i with _ | _ | _ | _ | _ | _ | _ | _ | _ | i <;> first | (injection ho with ho; subst ho; rfl) | (simp at ho)
        · intro i o ho
          rcases i with _ | _ | _ | _ | _ | _ | _ | _ | _ | i <;> first | (injection ho with ho; subst ho; rfl) | (simp at ho)
        · intro i o ho
          rcases i with _ | _ | _ | _ | _ | _ | _ | _ | _ | i <;> first | (injection ho with ho; subst ho; simp) | (simp at ho)
        · exact ⟨⟨rfl, rfl, rfl, Nat.le_refl _, fun _ _ _ => rfl⟩, by simp, by simp, by simp, by simp, by simp, by simp, by simp, by simp, by simp, by simp, by simp, by simp, hD2⟩
        · intro L vs w' hI j o ho hLi haf K hK
          rcases j with _ | _ | _ | _ | _ | _ | _ | _ | _ | j
          · injection ho with ho; subst ho
            exact wp_empty 30 33 rfl Tryd.underlying30 (by kernel_rfl) (hK _ _ (hI.op0 hD2 hLi))
          · injection ho with ho; subst ho
            exact wp_run_val 35 (.tmp 3) 1 _ _ rfl (by rw [frameAt_out _ _ _ _ rfl]; exact e3) (field_list w' w.heap.size) (hK _ _ hI.op1)
          · injection ho with ho; subst ho
            have l1 := haf ⟨1, .data⟩ (by simp) rfl
            have h8 : L 8 = false := by cases hc : L 8 with | false => rfl | true => rw [hI.c9 (hI.c6 (hI.c8 hc)).1] at hLi; cases hLi
            have hd8 := hI.i8
            simp only [h8] at hd8
            exact wp_load_run 30 (.tmp 64) _ _ rfl (by rw [frameAt_in _ _ _ 64 1 rfl (by omega)]; exact hI.i1 l1) (load_list hd8) (hK _ _ hI.op2)
          · injection ho with ho; subst ho
            have l0 := haf ⟨0, .data⟩ (by simp) rfl
            have l2 := haf ⟨2, .data⟩ (by simp) rfl
            obtain ⟨v', w2, hr, hI2⟩ := hI.op3 hD2 hL2 hn hLi l0 l2 30
            exact wp_append_run (.tmp 63) (.tmp 65) 30 rfl _ _ _ (frameAt_in _ _ _ 63 0 rfl (by omega)) ((frameAt_in _ _ _ 65 2 rfl (by omega)).trans (hI.i2 l2)) hr (hK _ _ hI2)
          · injection ho with ho; subst ho
            have hW3 := hI.item hD2 hW2
            exact wp_load_at 33 (.tmp 8) rfl W1.heap.size 0 (by rw [frameAt_out _ _ _ _ rfl]; exact e8) x0.cells _ (fun j v hj => by rw [Nat.zero_add, blk_cell hW3, List.getElem?_toArray]; exact hj) Tryd.underlying33 rfl (sizeW x0 hxb) (hK _ _ hI.op4)
          · injection ho with ho; subst ho
            have l4 := haf ⟨4, .data⟩ (by simp) rfl
            obtain ⟨ie, hie, hz, hs66, _⟩ := infoW
            refine wp_buildSlice 30 33 1 _ rfl x0.cells.toArray ie (.agg ZW) Tryd.underlying30 hie hz (by rw [hs66]; decide) (by rw [hs66]; decide) ?_ (hK _ _ (hI.op5 hD2 hLi))
            simp only [List.map_toArray, List.map_cons, List.map_nil]
            rw [frameAt_in _ _ _ 67 4 rfl (by omega), hI.i4 l4, hs66]
            exact fill_one _ _ 66 (by rw [List.size_toArray, x0.len hxb]) (by simp)
          · injection ho with ho; subst ho
            have l3 := haf ⟨3, .data⟩ (by simp) rfl
            have l5 := haf ⟨5, .data⟩ (by simp) rfl
            obtain ⟨v', w2, hr, hI2⟩ := hI.op6 hD2 hn hxb hLi l3 l5 30
            exact wp_append_run (.tmp 66) (.tmp 68) 30 rfl _ _ _ (frameAt_in _ _ _ 66 3 rfl (by omega)) (frameAt_in _ _ _ 68 5 rfl (by omega)) hr (hK _ _ hI2)
          · injection ho with ho; subst ho
            exact wp_run_val 35 (.tmp 3) 1 _ _ rfl (by rw [frameAt_out _ _ _ _ rfl]; exact e3) (field_list w' w.heap.size) (hK _ _ hI.op7)
          · injection ho with ho; subst ho
            have l7 := haf ⟨7, .data⟩ (by simp) rfl
            have l6 := haf ⟨6, .data⟩ (by simp) rfl
            have hd8 := hI.i8
            simp only [hLi] at hd8
            have h6 := row_one (hI.i6 l6)
            exact wp_store_run 30 (.tmp 70) (.tmp 69) _ _ rfl (by rw [frameAt_in _ _ _ 70 7 rfl (by omega)]; exact hI.i7 l7) (frameAt_in _ _ _ 69 6 rfl (by omega)) (store_list hd8 _ h6.1 h6.2) (hK _ _ (hI.op8 hD2 hLi l6 _))
          · simp at ho
        · intro L vs w' hI hall
          have h8 := hall 8 (by decide)
          have h6 := hall 6 (by decide)
          have hd := hI.i8
          rw [h8] at hd
          change DAt w' w.heap.size (bumpD d) (vs 6) at hd
          have hrow := hI.i6 h6
          have hone := row_one hrow
          have hZ3 : ZAt w' (w.heap.size + 1) := (hI.grown.block _ (blk_lt hZ2) (fun e => by injection e with e; omega)).trans hZ2
          have hB3 : Below w.heap.size w w' := hB2.grown hI.grown hB2.size (fun k hk => by injection hk with hk; omega)
          have hL3 : LAt w' (vs 6) (ws ++ [x0]) := by
            unfold LAt wsC
            rw [List.length_append, List.flatMap_append]
            simp only [List.flatMap_cons, List.flatMap_nil, List.append_nil]
            exact row_mono hrow (Nat.zero_le _)
          rw [frameAt_putAll a0 _ (by decide) vs, ha0]
          have HL3 := Lib.hid hL3
          generalize vs 6 = s' at hd hone hL3 HL3
          clear hrow hI hall h8 h6 hL3 hL2 hW2 hG2 hD2
          change Exit.then _ _ .normal (putAll _ (Act.mk _ _) _ _) w'
          simp only [putAll, Act.put, List.setIfInBounds_toArray]
          simp only [List.set_cons_succ, List.set_cons_zero]
          go_upto_region 20 with fail
          have hbb : (bumpD d).r.b.length = 64 := hb
          refine wp_region_lit ?_
          refine wpList_give (bumpD d) s' hbb hone.2 w.heap.size (w.heap.size + 1) 71 (.tmp 3) (.tmp 6) hd hZ3 rfl rfl rfl rfl rfl rfl rfl (by simp) ?_
          intro X' hX' hg
          have hld := hX'.load hbb
          have hb3 := hB3.grown hg hB3.size (fun k hk => by injection hk with hk; omega)
          have hL4 : LAt X' s' (ws ++ [x0]) := by
            refine row_keep HL3.out fun q hq' => ?_
            obtain ⟨_, cur, hc⟩ := row_at HL3.out hq'
            exact hg.block q (blk_lt hc) (fun e => types_ne hc hZ3 (by decide) (Option.some.inj e))
          have HLD := Lib.hid hld
          have HL4 := Lib.hid hL4
          clear hld hX' hL4
          generalize hY : (DV.cells (bumpD d) s').toArray = Y at HLD ⊢
          have HY := Lib.hid hY
          clear hY
          go_wp2_with fail
          exact bodyPost_ret (results_cell_tmp rfl _ _ X' ⟨w.heap.size + 1, 0, none⟩ rfl (.agg Y) HLD.out) rfl ⟨s', by rw [HY.out]; rfl, hone.2, by first | exact HL4.out | (rw [hx0]; exact HL4.out), hb3⟩

end Go.Proofs.YtlbfjnmhnpioaaaDoor
