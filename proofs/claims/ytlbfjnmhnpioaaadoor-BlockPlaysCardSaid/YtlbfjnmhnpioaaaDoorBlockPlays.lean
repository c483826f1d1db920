/-
  BlockPlays.
-/
import Derived.Test.YtlbfjnmhnpioaaaDoorPlaysWrite
namespace Go.Proofs.YtlbfjnmhnpioaaaDoor
open Go.RowKit
set_option maxRecDepth 100000
set_option linter.unusedVariables false
set_option linter.unusedSimpArgs false

/-- What is known of a disk's numbers behind j acts. -/
structure Fine (j : Nat) (s : St) : Prop where
  st0 : 0 ≤ s.st
  st : s.st ≤ j
  f : ∀ k, s.f = some k → 0 ≤ k ∧ k < 9223372036854775808
theorem Fine.ok {j : Nat} {s : St} (h : Fine j s) (hj : j < 1000000) : StOk s := ⟨h.st0, by have := h.st; omega, h.f⟩
theorem Fine.more {j : Nat} {s : St} (h : Fine j s) : Fine (j + 1) s := ⟨h.st0, by have := h.st; omega, h.f⟩
theorem Fine.write {j : Nat} {s : St} (h : Fine j s) (n : Nat) (i : Int) (b : List UInt8) : Fine (j + 1) (wrS n s i b) := by
  unfold wrS
  split
  · exact h.more
  · split
    · exact ⟨h.st0, by have := h.st; show s.st ≤ _; omega, h.f⟩
    · rename_i h0
      refine ⟨by have := h.st0; show 0 ≤ s.st + 1; omega, by have := h.st; show s.st + 1 ≤ _; omega, fun k hk => ?_⟩
      cases hf : s.f with
      | none => rw [hf] at hk; cases hk
      | some q =>
        rw [hf] at hk
        injection hk with hk
        simp only at hk
        have := h.f q hf
        have hq : q ≠ 0 := fun e => h0 (by rw [hf, e])
        omega
theorem Fine.arm {j : Nat} {s : St} (h : Fine j s) (k : Int) (hk : k < 9223372036854775808) : Fine (j + 1) (armS s k) := by
  unfold armS
  split
  · exact h.more
  · rename_i h0
    exact ⟨h.st0, by have := h.st; show s.st ≤ _; omega, fun q hq => by injection hq with hq; omega⟩
theorem Fine.crash {j : Nat} {s : St} (torn : Int) : Fine (j + 1) (crashS s torn) := ⟨Int.le_refl _, by show (0 : Int) ≤ _; omega, fun k hk => by cases hk⟩
theorem fine_new (n : Nat) : Fine 0 (zeroS n) := ⟨Int.le_refl _, Int.le_refl _, fun k hk => by cases hk⟩

theorem kind4 (k : Int) (h : 0 ≤ k ∧ k ≤ 255) : k.tmod 4 = 0 ∨ k.tmod 4 = 1 ∨ k.tmod 4 = 2 ∨ k.tmod 4 = 3 := by
  rw [Int.tmod_eq_emod_of_nonneg h.1]
  omega

theorem store_newZ {ops : Array Oper} {rest : List Oper} {o : Oper} {a : Act} {w : World} {Q : Exit → Act → World → Prop} (hgd : o.guard = none) (x y : Operand) (ho : o.op = .store 35 x y)
    (hx : a.eval x = .pointer (some ⟨w.heap.size, 0, none⟩)) (hy : a.eval y = .agg ZD)
    (h : ∀ X, Below w.heap.size w X → wpList Tryd.prog ops Q rest (a.put o.dst undef) X) : wpList Tryd.prog ops Q (o :: rest) a (w.alloc (.cells ZD 35)) := by
  refine wpList_store_all hgd 35 x y ho w.heap.size (zeroD.cells (.slice none 0 0)) hx hy 35 _ (alloc_zeroD w) (by rw [len_zeroD]; exact size_D) rfl (DV.one _ _ rfl) ?_
  rw [setRow_new]
  exact h _ ((Below.refl _ w).alloc (Nat.le_refl _) _)

theorem PlayInv.all {w0 W0 : World} {g bb : Nat} {fu : Value} {n : Nat} {s : St} {e : Nat} {x : ActV} {p : Option Addr} {cp : Nat} {L : Nat → Bool} {vs : Nat → Value} {w : World} (h : PlayInv w0 W0 g bb fu n s e x p cp L vs w) (l0 : L 0 = true) (l2 : L 2 = true) (l6 : L 6 = true) :
    L 0 = true ∧ L 1 = true ∧ L 2 = true ∧ L 3 = true ∧ L 4 = true ∧ L 5 = true ∧ L 6 = true :=
  ⟨l0, h.c2 l2, l2, (h.c6 l6).1, h.c5 (h.c6 l6).2, (h.c6 l6).2, l6⟩
theorem field_act1 (w : World) (g : Nat) : (Instr.fieldAt 41 (.pointer (some ⟨g, 0, none⟩)) 1).run Tryd.prog w = .ok (.pointer (some ⟨g, 1, none⟩)) w := by kernel_rfl
theorem field_act2 (w : World) (g : Nat) : (Instr.fieldAt 41 (.pointer (some ⟨g, 0, none⟩)) 2).run Tryd.prog w = .ok (.pointer (some ⟨g, 2, none⟩)) w := by kernel_rfl
theorem load_one_int {w : World} {a : Addr} {v : Value} (hc : w.cell? a = some v) : (loadVar 3 a).run Tryd.prog w = .ok v w := by
  simp [loadVar, isAgg, run_underlying Tryd.underlying3, load, hc]
  have hr := run_load (P := Tryd.prog) (w := w) a .plain
  rw [hc] at hr
  exact hr
theorem load_one_bytes {w : World} {a : Addr} {v : Value} (hc : w.cell? a = some v) : (loadVar 39 a).run Tryd.prog w = .ok v w := by
  simp [loadVar, isAgg, run_underlying Tryd.underlying39, load, hc]
  have hr := run_load (P := Tryd.prog) (w := w) a .plain
  rw [hc] at hr
  exact hr
theorem RefAt.weaken {w : World} {q n : Nat} {s : St} {m m' : Nat} (h : RefAt w q n s m) (hm : m ≤ m') : RefAt w q n s m' := by
  obtain ⟨d, sv, ws, h1, h2, h3, h4, h5⟩ := h
  exact ⟨d, sv, ws, h1, h2, h3, h4, Nat.le_trans h5 hm⟩
theorem RefAt.setByte {w : World} {q n : Nat} {s : St} {m b : Nat} {cs : Array Value} (h : RefAt w q n s m) (hb : w.heap[b]? = some (.cells cs 5 (0, 0))) (i : Nat) (v : Value) : RefAt (w.setCell ⟨b, i, none⟩ v) q n s m := by
  obtain ⟨d, sv, ws, h1, h2, h3, h4, h5⟩ := h
  exact ⟨d, sv, ws, (Below.heap_setCell _ ⟨b, i, none⟩ _ _ (types_ne h1 hb (by decide))).trans h1, h2, h3.kept fun k cs' hc => Below.heap_setCell _ ⟨b, i, none⟩ _ _ (types_ne hc hb (by decide)), h4, h5⟩

set_option maxHeartbeats 4000000 in
theorem plays6_no (n0 : Int) (hn0 : n0 < 1 ∨ 4096 < n0) (pl : Option Addr) (l : List ActV) (cl : Nat) (w : World) (hG : ErrT w) (hL : ActsAt w pl l) (hf : fewB l = true) (hl : l.length ≤ maxLen) :
    Calls Tryd.prog 3 #[.int .i64 n0, .slice pl l.length cl] w fun e w' => e = .returned (.bool true) ∧ Below w.heap.size w w' := by
  have h0 := awake6_any w
  have HL := Lib.hid hL
  have HG := Lib.hid hG
  clear hL hG
  go_enter Tryd.func3, Tryd.ntmps3
  go_wp2_with fail
  refine h0.mono ?_
  rintro e w1 ⟨rfl, hb1⟩
  have h1 := few_any pl l cl w1 hl (fun i x hx => let ⟨a, h1, h2⟩ := HL.out i x hx; ⟨a, h1, h2.below hb1⟩)
  rw [hf] at h1
  clear h0 hf
  go_wp2_with fail
  refine h1.mono ?_
  rintro e w2 ⟨rfl, hb2⟩
  have hB2 : Below w.heap.size w w2 := hb1.trans (hb2.mono hb1.size)
  have h2 := new_no n0 w2 hn0
  clear h1
  go_wp2_with fail
  refine h2.mono ?_
  rintro e w3 ⟨rfl, rfl⟩
  have h3 := refNew_no n0 hn0 w2
  have hz := zero_D
  clear h2
  go_wp2_with fail
  refine h3.mono ?_
  rintro e w4 ⟨rfl, hb4⟩
  have hB4 := hB2.trans (hb4.mono hB2.size)
  clear h3
  go_wp2_with (refine store_newZ rfl (.tmp 7) (.tmp 33) rfl rfl rfl ?_; refine Hid.out ?_)
  refine Lib.hid ?_
  intro X hX
  have hBX := hB4.trans (hX.mono hB4.size)
  have h5 := code_err 8 X (HG.out.below hBX)
  rw [show errV 8 = .iface 54 (.int .i64 8) from rfl] at h5
  clear hz
  go_wp2_with fail
  refine h5.mono ?_
  rintro e w5 ⟨rfl, hb5⟩
  have hB5 := hBX.trans (hb5.mono hBX.size)
  clear h5
  go_wp2_with fail
  go_ret
  exact ⟨rfl, hB5⟩

set_option maxHeartbeats 8000000 in
theorem plays6_yes (n : Nat) (hn1 : 1 ≤ n) (hn : n ≤ 4096) (pl : Option Addr) (l : List ActV) (cl : Nat) (w : World) (hG : ErrT w) (hL : ActsAt w pl l) (hf : fewB l = true) (hw : ∀ x ∈ l, (0 ≤ x.k ∧ x.k ≤ 255) ∧ (-9223372036854775808 ≤ x.n ∧ x.n < 9223372036854775808)) :
    Calls Tryd.prog 3 #[.int .i64 n, .slice pl l.length cl] w fun e w' => e = .returned (.bool true) ∧ Below w.heap.size w w' := by
  have h0 := awake6_any w
  have HL := Lib.hid hL
  have HG := Lib.hid hG
  have HW := Lib.hid hw
  have h40 : l.length ≤ 40 := by
    unfold fewB at hf
    simp at hf
    exact hf.2
  have h200 : ∀ x ∈ l, x.b.length ≤ 200 := by
    unfold fewB at hf
    simp at hf
    exact hf.1
  have H200 := Lib.hid h200
  clear hL hG hw h200
  go_enter Tryd.func3, Tryd.ntmps3
  go_wp2_with fail
  refine h0.mono ?_
  rintro e w1 ⟨rfl, hb1⟩
  have h1 := few_any pl l cl w1 (by unfold maxLen; omega) (fun i x hx => let ⟨a, h1, h2⟩ := HL.out i x hx; ⟨a, h1, h2.below hb1⟩)
  rw [hf] at h1
  clear h0 hf
  go_wp2_with fail
  refine h1.mono ?_
  rintro e w2 ⟨rfl, hb2⟩
  have hB2 : Below w.heap.size w w2 := hb1.trans (hb2.mono hb1.size)
  have h2 := mine_new n w2 hn1 hn w.heap.size w hB2 hB2.size
  clear h1
  go_wp2_with fail
  refine h2.mono ?_
  rintro e w3 ⟨g, bb, rfl, hm3, hb3, _, _⟩
  change Mine _ _ _ _ _ _ _ (zeroS n) at hm3
  have h3 := refNew_yes n hn1 hn w3
  have hz := zero_D
  clear h2
  go_wp2_with fail
  refine h3.mono ?_
  rintro e w4 ⟨rfl, hb4⟩
  have hm4 := hm3.later hb4
  clear h3
  go_wp2_with (refine store_newD n rfl (.tmp 7) (.tmp 33) rfl rfl rfl ?_; refine Hid.out ?_)
  refine Lib.hid ?_
  have hbn : Below w4.heap.size w4 (w4.alloc (.cells (ND n) 35)) := (Below.refl _ w4).alloc (Nat.le_refl _) _
  have hm5 := hm4.later hbn
  have hD5 : DAt (w4.alloc (.cells (ND n) 35)) w4.heap.size (newD n) (.slice none 0 0) := heap_alloc_new _ _
  have hR5 : RefAt (w4.alloc (.cells (ND n) 35)) w4.heap.size n (zeroS n) 0 := ⟨_, _, [], hD5, rfl, World.ownsRow_nil _ _ _ _, rel_new n, Nat.le_refl _⟩
  generalize w4.alloc (.cells (ND n) 35) = w5 at hm5 hR5 ⊢
  have hq4 := hm4.size
  obtain ⟨q, hq⟩ : ∃ q, q = w4.heap.size := ⟨_, rfl⟩
  rw [← hq] at hR5 hq4
  rw [← hq]
  have h5 := code_err 0 w5 (HG.out.below hm5.below)
  rw [show errV 0 = .nilIface from rfl] at h5
  have HR5 := Lib.hid hR5
  clear hz hbn hm4 hm3 hD5 hR5 hq
  go_wp2_with fail
  refine h5.mono ?_
  rintro e w6 ⟨rfl, hb6⟩
  have hm6 := hm5.later hb6
  have HR6 := Lib.hid (HR5.out.below hb6)
  clear h5 hm5 HR5
  go_wp2_with fail
  go_loopw [50, 5] (fun i dv wr => ∃ (j g bb : Nat) (fu : Value) (s : St), j ≤ l.length ∧ i = .int .i64 j ∧ dv = .pointer (some ⟨g, 0, none⟩) ∧ Mine w.heap.size w wr g bb fu n s ∧ Hid (RefAt wr q n s j) ∧ Hid (Fine j s)) (fun i dv _ => l.length - (intOf i).toNat)
  case atStart => exact ⟨0, g, bb, _, _, Nat.zero_le _, rfl, rfl, hm6, HR6, Lib.hid (fine_new n)⟩
  case round =>
    clear hm6 HR6 hb1 hb2 hb3 hb4 hb6
    obtain ⟨j, g, bb, fu, s, hj, rfl, rfl, hm, hR, hF⟩ := hrel
    by_cases hlt : j < l.length
    · obtain ⟨x, hx⟩ : ∃ x, l[j]? = some x := ⟨_, List.getElem?_eq_getElem hlt⟩
      obtain ⟨a, rfl, ha⟩ := HL.out j x hx
      have ha' := ha.below hm.below
      have c0 := ha'.k
      have c1 := ha'.n
      obtain ⟨p, cp, c2w, hp⟩ := ha.b
      have c2 := (hm.below.cell (World.block_lt_of_cell? w _ c2w)).trans c2w
      have hxm := List.mem_of_getElem? hx
      obtain ⟨hxk, hxn1, hxn2⟩ := HW.out x hxm
      have h4 := kind4 x.k hxk
      have hbA : Below wr.heap.size wr (wr.alloc (.cells #[.int .u8 x.k, .int .i64 x.n, .slice p x.b.length cp] 41)) := (Below.refl _ wr).alloc (Nat.le_refl _) _
      have hmA := hm.later hbA
      have hRA := hR.out.below hbA
      have hAct : (wr.alloc (.cells #[.int .u8 x.k, .int .i64 x.n, .slice p x.b.length cp] 41)).heap[wr.heap.size]? = some (.cells #[.int .u8 x.k, .int .i64 x.n, .slice p x.b.length cp] 41 (0, 0)) := heap_alloc_new _ _
      have HA := Lib.hid hAct
      have HRA := Lib.hid hRA
      have HP := Lib.hid hp
      have HB200 := Lib.hid (H200.out x hxm)
      clear ha ha' hAct hRA hp c2w hR hxm hx
      go_upto_region 13 with fail
      clear c0 c1 c2
      generalize (wr.alloc (.cells #[.int .u8 x.k, .int .i64 x.n, .slice p x.b.length cp] 41)) = wA at hmA HRA HA hbA ⊢
      obtain ⟨e, he⟩ : ∃ e, e = wr.heap.size := ⟨_, rfl⟩
      rw [← he] at HA ⊢
      have k0 : wA.cell? ⟨e, 0, none⟩ = some (.int .u8 x.k) := by rw [blk_cell HA.out]; rfl
      have k1 : wA.cell? ⟨e, 1, none⟩ = some (.int .i64 x.n) := by rw [blk_cell HA.out]; rfl
      have k2 : wA.cell? ⟨e, 2, none⟩ = some (.slice p x.b.length cp) := by rw [blk_cell HA.out]; rfl
      clear he hm hbA
      rcases h4 with h4 | h4 | h4 | h4
      case' inl =>
        go_upto_region 17 with fail
        refine wp_name ?_
        intro a0 ha0
        have e5 : a0.eval (.tmp 5) = .pointer (some ⟨g, 0, none⟩) := by rw [ha0]; rfl
        have e10 : a0.eval (.tmp 10) = .pointer (some ⟨e, 0, none⟩) := by rw [ha0]; rfl
        have hsz : 76 < a0.tmps.size := by rw [ha0]; exact Nat.le_of_ble_eq_true rfl
        have hkeep : ∀ {w' : World}, wA.grownBy w' none → w'.heap[e]? = some (.cells #[.int .u8 x.k, .int .i64 x.n, .slice p x.b.length cp] 41 (0, 0)) := fun hg => (hg.block e (blk_lt HA.out) (fun h => by cases h)).trans HA.out
        have hpA : BytesAt wA p x.b := HP.out.below hmA.below
        refine wp_region_frame rfl [67, 68, 69, 70, 71, 72, 73, 74, 75, 11] (by decide) (PlayInv w wA g bb fu n s e x p cp) ?_ ?_ ?_ ?_ ?_ ?_
        · intro i o ho
          rcases i with _ | _ | _ | _ | _ | _ | _ | _ | _ | _ | i <;> first | (injection ho with ho; subst ho; rfl) | (simp at ho)
        · intro i o ho
          rcases i with _ | _ | _ | _ | _ | _ | _ | _ | _ | _ | i <;> first | (injection ho with ho; subst ho; rfl) | (simp at ho)
        · intro i o ho
          rcases i with _ | _ | _ | _ | _ | _ | _ | _ | _ | _ | i <;> first | (injection ho with ho; subst ho; simp) | (simp at ho)
        · exact ⟨by simp, by simp, by simp, by simp, fun _ => ⟨rfl, rfl, rfl, Nat.le_refl _, fun _ _ _ => rfl⟩, by simp, by simp, by simp, by simp, by simp, by simp, by simp, by simp, by simp, by simp⟩
        · intro L vs w' hI jj o ho hLi haf K hK
          rcases jj with _ | _ | _ | _ | _ | _ | _ | _ | _ | _ | jj
          · injection ho with ho; subst ho
            refine BigFrame.wp_move (.tmp 5) rfl ?_
            rw [frameAt_out _ _ _ _ rfl, e5]
            exact hK _ _ hI.op0
          · injection ho with ho; subst ho
            exact wp_run_val 41 (.tmp 10) 1 _ _ rfl (by rw [frameAt_out _ _ _ _ rfl]; exact e10) (field_act1 w' e) (hK _ _ hI.op1)
          · injection ho with ho; subst ho
            have l1 := haf ⟨1, .data⟩ (by simp) rfl
            have h7 := hI.no7 (fun c => by rw [hLi] at c; simp at c)
            exact wp_load_run 3 (.tmp 68) _ _ rfl (by rw [frameAt_in _ _ _ 68 1 rfl (by omega)]; exact hI.i1 l1) (load_one_int (by rw [blk_cell (hkeep (hI.early h7))]; rfl)) (hK _ _ (hI.op2 l1))
          · injection ho with ho; subst ho
            exact wp_empty 39 5 rfl Tryd.underlying39 (by kernel_rfl) (hK _ _ (hI.op3 hLi))
          · injection ho with ho; subst ho
            exact wp_run_val 41 (.tmp 10) 2 _ _ rfl (by rw [frameAt_out _ _ _ _ rfl]; exact e10) (field_act2 w' e) (hK _ _ hI.op4)
          · injection ho with ho; subst ho
            have l4 := haf ⟨4, .data⟩ (by simp) rfl
            have h7 := hI.no7 (fun c => by rw [hLi] at c; simp at c)
            exact wp_load_run 39 (.tmp 71) _ _ rfl (by rw [frameAt_in _ _ _ 71 4 rfl (by omega)]; exact hI.i4 l4) (load_one_bytes (by rw [blk_cell (hkeep (hI.early h7))]; rfl)) (hK _ _ (hI.op5 l4))
          · injection ho with ho; subst ho
            have l3 := haf ⟨3, .data⟩ (by simp) rfl
            have l5 := haf ⟨5, .data⟩ (by simp) rfl
            obtain ⟨v', w2', hr, hI2⟩ := hI.op6 hpA (by have := HB200.out; omega) hLi l3 l5 39
            exact wp_append_run (.tmp 70) (.tmp 72) 39 rfl _ _ _ (frameAt_in _ _ _ 70 3 rfl (by omega)) (frameAt_in _ _ _ 72 5 rfl (by omega)) hr (hK _ _ hI2)
          · injection ho with ho; subst ho
            have l0 := haf ⟨0, .data⟩ (by simp) rfl
            have l2 := haf ⟨2, .data⟩ (by simp) rfl
            have l6 := haf ⟨6, .data⟩ (by simp) rfl
            have hc := hI.op7 hmA (hF.out.ok (by omega)) hn hLi (hI.all l0 l2 l6)
            refine wp_call_fn 9 _ _ rfl Tryd.func9 (by kernel_rfl) (by kernel_rfl) (R := fun v w'' => PlayInv w wA g bb fu n s e x p cp (fun j => L j || (j == 7)) (fun j => if j = 7 then v else vs j) w'') ?_ (fun v w'' h => hK v w'' h)
            simp only [List.map_toArray, List.map_cons, List.map_nil]
            rw [frameAt_in _ _ _ 67 0 rfl (by omega), frameAt_in _ _ _ 69 2 rfl (by omega), frameAt_in _ _ _ 73 6 rfl (by omega)]
            exact hc
          · injection ho with ho; subst ho
            have l7 := haf ⟨7, .data⟩ (by simp) rfl
            have hc := hI.op8 HG.out l7
            refine wp_call_fn 8 _ _ rfl Tryd.func8 (by kernel_rfl) (by kernel_rfl) (R := fun v w'' => PlayInv w wA g bb fu n s e x p cp (fun j => L j || (j == 8)) (fun j => if j = 8 then v else vs j) w'') ?_ (fun v w'' h => hK v w'' h)
            simp only [List.map_toArray, List.map_cons, List.map_nil]
            rw [frameAt_in _ _ _ 74 7 rfl (by omega)]
            exact hc
          · injection ho with ho; subst ho
            have l8 := haf ⟨8, .data⟩ (by simp) rfl
            refine BigFrame.wp_assign (.tmp 75) rfl ?_
            rw [frameAt_in _ _ _ 75 8 rfl (by omega)]
            exact hK _ _ (hI.op9 l8)
          · simp at ho
        · intro L vs w' hI hall
          obtain ⟨_, hm7, hk7⟩ := hI.i7 (hall 7 (by decide))
          have h9 := hI.i9 (hall 9 (by decide))
          have hA7 := (hk7.block e (blk_lt HA.out) (hmA.disk.off HA.out (by decide))).trans HA.out
          have hR7 := HRA.out.only hmA.disk hk7
          rw [frameAt_putAll a0 _ (by decide) vs, ha0]
          simp only [putAll, h9, Nat.reduceAdd]
          generalize hwc : wrC n s x.n x.b = wc
          clear hI hall hk7 h9 e5 e10 hsz hkeep k0 k1 k2 HRA hmA ha0
          change Exit.then _ _ .normal (Act.put (Act.mk _ _) _ _) w'
          simp only [Act.put, List.setIfInBounds_toArray, List.set_cons_succ, List.set_cons_zero]
          have k1 : w'.cell? ⟨e, 1, none⟩ = some (.int .i64 x.n) := by rw [blk_cell hA7]; rfl
          have k2 : w'.cell? ⟨e, 2, none⟩ = some (.slice p x.b.length cp) := by rw [blk_cell hA7]; rfl
          obtain ⟨d, sv, ws, hd, hone, hls, hrel, hlen⟩ := hR7
          have h9 := refWrite_rel hrel (hF.out.ok (by omega)) sv hone (by omega) x.n p x.b cp w' (HP.out.below hm7.below) hls
          rw [hwc] at h9
          have hrb := hrel.rb
          generalize hC : d.cells sv = C at h9
          have hkk : ∀ j v, C[j]? = some v → w'.cell? ⟨q, 0 + j, none⟩ = some v := fun j v hv => by rw [Nat.zero_add, hd.cell, hC]; exact hv
          have h71 : (Tryd.prog.info? 35).map (·.size) = some C.length := by rw [← hC]; exact sizeD d sv hrb
          have HKK := Lib.hid hkk
          have H71 := Lib.hid h71
          have HD := Lib.hid hd
          have HWC := Lib.hid hwc
          clear hkk h71 hd hrel hC hls hwc hpA
          go_wp2_with (refine wpList_load_at rfl 35 (.tmp 7) rfl q 0 rfl C _ HKK.out Tryd.underlying35 rfl H71.out ?_)
          refine h9.mono ?_
          rintro e' w9 ⟨d', sv', ws', rfl, hone', hls9, hrel9, hlen', hb9⟩
          have hmc9 := hm7.later hb9
          have hD9 := HD.out.below hb9
          have HD9 := Lib.hid hD9
          have HLS9 := Lib.hid hls9
          have HRC := Lib.hid hrel9
          clear h9 hm7 HD HKK H71 hD9 hls9 hrel9 k1 k2
          generalize hC2 : d'.cells sv' = C2
          have HC2 := Lib.hid hC2
          clear hC2
          go_wp2_with (refine wpList_putD d d' sv sv' hrb HRC.out.rb hone' q (.tmp 7) (.tmp 83) HD9.out rfl rfl rfl (by rw [HC2.out]; rfl) ?_; refine Hid.out ?_)
          refine Lib.hid ?_
          intro XT hXT hgX
          have hmT := hmc9.grown HD9.out hq4 (by decide) hgX
          have HRT : Hid (RefAt XT q n (wrS n s x.n x.b) (j + 1)) :=
            Lib.hid ⟨d', sv', _, hXT, hone', HLS9.out.kept fun k cs hc => hgX.block k (blk_lt hc) (fun e => types_ne hc HD9.out (by decide) (Option.some.inj e)), HRC.out, by omega⟩
          have hFT : Hid (Fine (j + 1) (wrS n s x.n x.b)) := Lib.hid (hF.out.write n x.n x.b)
          generalize wrS n s x.n x.b = sT at hmT HRT hFT
          generalize hgT : g = gT at hmT ⊢
          generalize bb = bT at hmT
          generalize fu = fT at hmT
          clear hXT hgX HD9 HLS9 HRC HC2 hmc9 hrb hlen hone hgT
          obtain ⟨d, sv, ws, hd, hone, hls, hrel, hlen⟩ := HRT.out
          have h11 := is6_any hmT.disk d sv ws hrel hn (by omega) hls
          have hrb := hrel.rb
          generalize hC : d.cells sv = C at h11
          have hkk : ∀ j v, C[j]? = some v → XT.cell? ⟨q, 0 + j, none⟩ = some v := fun j v hv => by rw [Nat.zero_add, hd.cell, hC]; exact hv
          have h71 : (Tryd.prog.info? 35).map (·.size) = some C.length := by rw [← hC]; exact sizeD d sv hrb
          have HKK := Lib.hid hkk
          have H71 := Lib.hid h71
          have HRD : Hid (RefAt XT q n sT (j + 1)) := Lib.hid ⟨d, sv, ws, hd, hone, hls, hrel, hlen⟩
          clear hkk h71 hd hls hrel hC HRT hone hlen hrb
          go_wp2_with (refine BigFrame.wpList_want rfl fun _ hK => wp_load_at 35 (.tmp 7) rfl q 0 rfl C _ HKK.out Tryd.underlying35 rfl H71.out (hK _ _ ?_))
          refine h11.mono ?_
          rintro e' w11 ⟨rfl, hb11⟩
          have hm11 := hmT.later hb11
          have hR11 := Lib.hid (HRD.out.below hb11)
          clear h11 hmT HRD HKK H71
          go_wp2_with fail
          go_roundw
          case rel => exact ⟨j + 1, gT, bT, fT, sT, by omega, by go_num, rfl, hm11, hR11, hFT⟩
          case measure => simp [intOf]; omega
      case' inr.inl =>
        by_cases hin : 0 ≤ x.n ∧ x.n < (n : Int)
        case' neg =>
          obtain ⟨cu', cap', sp', hdk⟩ := hmA.disk
          have h5 := read_no g bb n cap' x.n wA hin hdk.c0
          obtain ⟨d, sv, ws, hd, hone, hls, hrel, hlen⟩ := HRA.out
          have cq : wA.cell? ⟨q, 0, none⟩ = some (.int .i64 n) := by rw [hd.cell, d.get0 sv, hrel.nn]
          have h6 := code_err 8 wA (HG.out.below hmA.below)
          rw [show errV 8 = .iface 54 (.int .i64 8) from rfl] at h6
          clear hdk hd hls hrel hone hlen
          by_cases hneg : x.n < 0
          case' pos => clear hin
          case' neg =>
            have hge : (n : Int) ≤ x.n := by omega
            clear hin
          all_goals
            go_upto_region 20 with fail
            go_wp2_with fail
            refine h5.mono ?_
            rintro e' w5 ⟨rfl, rfl⟩
            clear h5
            go_wp2_with fail
            refine h6.mono ?_
            rintro e' w6' ⟨rfl, hb6'⟩
            have hm6' := hmA.later hb6'
            have hR6' := Lib.hid ((HRA.out.below hb6').weaken (Nat.le_succ j))
            have hF6' := Lib.hid hF.out.more
            clear h6 hmA HRA k0 k1 k2 cq
            go_wp2_with fail
            go_roundw
            case rel => exact ⟨j + 1, g, bb, fu, s, by omega, by go_num, rfl, hm6', hR6', hF6'⟩
            case measure => simp [intOf]; omega
        case' pos =>
          obtain ⟨i, hi⟩ : ∃ i : Nat, x.n = (i : Int) := ⟨x.n.toNat, by omega⟩
          have hin' : i < n := by omega
          rw [hi] at k1
          have h5 := read_any hmA.disk i hin'
          go_upto_region 20 with fail
          go_wp2_with fail
          refine h5.mono ?_
          rintro e' w5 ⟨b, cap, sp, rfl, hb5, hcap, hx5, hB5⟩
          have hA5 := (hB5.block e (blk_lt HA.out)).trans HA.out
          have hm5' := hmA.later hB5
          obtain ⟨d, sv, ws, hd, hone, hls, hrel, hlen⟩ := HRA.out.below hB5
          have cq : w5.cell? ⟨q, 0, none⟩ = some (.int .i64 n) := by rw [hd.cell, d.get0 sv, hrel.nn]
          have h7 := refRead_any d sv ws hrel.rb i (by omega) hrel.ok w5 hls
          clear k0 k1 k2
          have k1 : w5.cell? ⟨e, 1, none⟩ = some (.int .i64 i) := by rw [blk_cell hA5, ← hi]; rfl
          have hrb := hrel.rb
          rw [(hrel.at' i hin').symm] at h7
          have hbl := len_blockAt s.bs i n hrel.bl hin'
          generalize hC : d.cells sv = C at h7
          have hkk : ∀ j v, C[j]? = some v → w5.cell? ⟨q, 0 + j, none⟩ = some v := fun j v hv => by rw [Nat.zero_add, hd.cell, hC]; exact hv
          have h71 : (Tryd.prog.info? 35).map (·.size) = some C.length := by rw [← hC]; exact sizeD d sv hrb
          have HKK := Lib.hid hkk
          have H71 := Lib.hid h71
          have HBL := Lib.hid hbl
          have HX5 := Lib.hid hx5
          have HR5' : Hid (RefAt w5 q n s j) := Lib.hid ⟨d, sv, ws, hd, hone, hls, hrel, hlen⟩
          have hz := zero_64
          have hblt := blk_lt hx5
          have hwb : w.heap.size ≤ b := Nat.le_trans hmA.size hb5
          clear h5 hkk h71 hd hrel hC hls hA5 hmA HRA hrb hlen hone hbl hx5
          go_wp2_with (refine wpList_load_at rfl 35 (.tmp 7) rfl q 0 rfl C _ HKK.out Tryd.underlying35 rfl H71.out ?_)
          refine h7.mono ?_
          rintro e' w7 ⟨rfl, hB7⟩
          have hx7 := (hB7.block b (blk_lt HX5.out)).trans HX5.out
          have HX7 := Lib.hid hx7
          clear h7 hx7 HX5 HKK H71 k1 cq
          generalize hY : (bytesV (blockAt s.bs i)).toArray = Y
          have HY := Lib.hid hY
          clear hY
          go_wp2_with (refine store_new64 (blockAt s.bs i) HBL.out rfl (.tmp 15) (.tmp 115) rfl rfl (by rw [HY.out]; rfl) ?_)
          intro X hX hBX hSX
          have hx8 := (hBX.block b (blk_lt HX7.out)).trans HX7.out
          have q1 : ∀ m, (convert 39 9 (.slice (some ⟨b, 0, none⟩) 64 cap)).run Tryd.prog (X.drewN m) = .ok (.string (txt s.bs i)) (X.drewN m) := fun m => str_block (w := X.drewN m) cap i HBL.out hx8
          have q2 : ∀ m, (convert 39 9 (.slice (some ⟨w7.heap.size, 0, none⟩) 64 64)).run Tryd.prog (X.drewN m) = .ok (.string (txt s.bs i)) (X.drewN m) := fun m => str_block (w := X.drewN m) (sp := []) 64 i HBL.out (by rw [List.append_nil]; exact hX)
          have hBX2 : Below w5.heap.size w5 X := hB7.trans (hBX.mono hB7.size)
          have hm7 := hm5'.later hBX2
          have HR7 := Lib.hid (HR5'.out.below hBX2)
          have HX8 := Lib.hid hx8
          clear hx8 hX HX7 hm5' HR5'
          generalize txt s.bs i = tx at q1 q2
          go_upto_region 25 with fail
          go_quiet (fail)
          have hdr : Below X.heap.size X (X.drewN nq) := ⟨rfl, rfl, rfl, Nat.le_refl _, fun _ _ => rfl⟩
          have hm9 := hm7.later hdr
          have HR9 := Lib.hid (HR7.out.below hdr)
          have hx9 := (hdr.block b (blk_lt HX8.out)).trans HX8.out
          have HX9 := Lib.hid hx9
          clear q1 q2 hdr hm7 HR7 hx9 HX8
          generalize X.drewN nq = X9 at hm9 HR9 HX9 ⊢
          go_upto_region 28 with fail
          obtain ⟨wx, hwx⟩ : ∃ wx, wx = wr := ⟨_, rfl⟩
          subst hwx
          go_loopw [127] (fun i' wq => ∃ (m : Nat) (cs : Array Value), m ≤ 64 ∧ i' = .int .i64 m ∧ Mine w.heap.size w wq g bb fu n s ∧ Hid (RefAt wq q n s j) ∧ Hid (wq.heap[b]? = some (.cells cs 5 (0, 0))) ∧ Hid (∀ k, m ≤ k → k < 64 → ∃ u : UInt8, cs[k]? = some (.int .u8 u.toNat))) (fun i' _ => 64 - (intOf i').toNat)
          case atStart =>
            refine ⟨0, _, Nat.zero_le _, rfl, hm9, HR9, HX9, Lib.hid fun k _ hk => ?_⟩
            obtain ⟨u, hu⟩ : ∃ u, (blockAt s.bs i)[k]? = some u := ⟨_, List.getElem?_eq_getElem (by rw [HBL.out]; exact hk)⟩
            exact ⟨u, by rw [List.getElem?_toArray, List.getElem?_append_left (by rw [len_bytesV, HBL.out]; exact hk)]; simp [bytesV, hu]⟩
          case round =>
            obtain ⟨m, cs, hm64, rfl, hmq, hRq, hXq, hcq⟩ := hrel
            by_cases hlm : m < 64
            case' pos =>
              obtain ⟨u, hu⟩ := hcq.out m (Nat.le_refl _) hlm
              have cm : wr.cell? ⟨b, m, none⟩ = some (.int .u8 u.toNat) := by rw [blk_cell hXq.out]; exact hu
              have fm := blk_frozen hXq.out m
              clear hu
              go_wp2_with fail
              go_roundw
              case' rel =>
                refine ⟨m + 1, _, by omega, by go_num, hmq.setOther hXq.out hwb (by decide) m _, Lib.hid (hRq.out.setByte hXq.out m _), Lib.hid (heap_setCell_same _ b m cs _ _ hXq.out), Lib.hid fun k hk hk64 => ?_⟩
                obtain ⟨u', hu'⟩ := hcq.out k (by omega) hk64
                exact ⟨u', by rw [Array.getElem?_setIfInBounds, if_neg (by omega)]; exact hu'⟩
              case' measure => simp [intOf]; omega
            case' neg =>
              have hme : m = 64 := by omega
              subst hme
              go_upto_region 35 with fail
              have hmT := hmq
              have HRT := Lib.hid (hRq.out.weaken (Nat.le_succ j))
              have hFT := Lib.hid hF.out.more
              generalize wr = XT at hmT HRT ⊢
              generalize s = sT at hmT HRT hFT
              generalize hgT : g = gT at hmT ⊢
              generalize bb = bT at hmT
              generalize fu = fT at hmT
              obtain ⟨d, sv, ws, hd, hone, hls, hrel, hlen⟩ := HRT.out
              have h11 := is6_any hmT.disk d sv ws hrel hn (by omega) hls
              have hrb := hrel.rb
              generalize hC : d.cells sv = C at h11
              have hkk : ∀ j v, C[j]? = some v → XT.cell? ⟨q, 0 + j, none⟩ = some v := fun j v hv => by rw [Nat.zero_add, hd.cell, hC]; exact hv
              have h71 : (Tryd.prog.info? 35).map (·.size) = some C.length := by rw [← hC]; exact sizeD d sv hrb
              have HKK := Lib.hid hkk
              have H71 := Lib.hid h71
              have HRD : Hid (RefAt XT q n sT (j + 1)) := Lib.hid ⟨d, sv, ws, hd, hone, hls, hrel, hlen⟩
              clear hkk h71 hd hls hrel hC HRT hone hlen hrb
              go_wp2_with (refine BigFrame.wpList_want rfl fun _ hK => wp_load_at 35 (.tmp 7) rfl q 0 rfl C _ HKK.out Tryd.underlying35 rfl H71.out (hK _ _ ?_))
              refine h11.mono ?_
              rintro e' w11 ⟨rfl, hb11⟩
              have hm11 := hmT.later hb11
              have hR11 := Lib.hid (HRD.out.below hb11)
              clear h11 hmT HRD HKK H71
              go_wp2_with fail
              go_roundw
              case rel => exact ⟨j + 1, gT, bT, fT, sT, by omega, by go_num, rfl, hm11, hR11, hFT⟩
              case measure => simp [intOf]; omega
      case' inr.inr.inl =>
        go_upto_region 33 with fail
        have h5 := hmA.arm x.n
        have H5 := Lib.hid h5
        clear h5
        go_wp2_with fail
        refine H5.out.mono ?_
        rintro e' w5 ⟨rfl, ⟨fu5, hm5'⟩, hk5⟩
        have hA5 := (hk5.block e (blk_lt HA.out) (hmA.disk.off HA.out (by decide))).trans HA.out
        have hR5' := HRA.out.only hmA.disk hk5
        have h6 := code_err (armC s x.n) w5 (HG.out.below hm5'.below)
        generalize hev : errV (armC s x.n) = ev at h6
        clear H5 hk5 hmA HRA k0 k1 k2 hev
        go_wp2_with fail
        refine h6.mono ?_
        rintro e' w6' ⟨rfl, hb6'⟩
        have hA6 := (hb6'.block e (blk_lt hA5)).trans hA5
        have hm6' := hm5'.later hb6'
        have k1 : w6'.cell? ⟨e, 1, none⟩ = some (.int .i64 x.n) := by rw [blk_cell hA6]; rfl
        obtain ⟨d, sv, ws, hd, hone, hls, hrel, hlen⟩ := hR5'.below hb6'
        have h9 := refArm_rel hrel sv hone x.n w6' hls
        have hrb := hrel.rb
        generalize hC : d.cells sv = C at h9
        have hkk : ∀ j v, C[j]? = some v → w6'.cell? ⟨q, 0 + j, none⟩ = some v := fun j v hv => by rw [Nat.zero_add, hd.cell, hC]; exact hv
        have h71 : (Tryd.prog.info? 35).map (·.size) = some C.length := by rw [← hC]; exact sizeD d sv hrb
        have HKK := Lib.hid hkk
        have H71 := Lib.hid h71
        have HD := Lib.hid hd
        clear hkk h71 hd hrel hC hls h6 hA6 hA5 hm5' hR5'
        generalize hac : armC s x.n = ac at h9
        go_wp2_with (refine wpList_load_at rfl 35 (.tmp 7) rfl q 0 rfl C _ HKK.out Tryd.underlying35 rfl H71.out ?_)
        refine h9.mono ?_
        rintro e' w9 ⟨d', rfl, hls9, hrel9, hb9⟩
        have hmc9 := hm6'.later hb9
        have hD9 := HD.out.below hb9
        have HD9 := Lib.hid hD9
        have HLS9 := Lib.hid hls9
        have HRC := Lib.hid hrel9
        clear h9 hm6' HD HKK H71 hD9 hls9 hrel9 k1
        generalize hC2 : d'.cells sv = C2
        have HC2 := Lib.hid hC2
        clear hC2
        go_wp2_with (refine wpList_putD d d' sv sv hrb HRC.out.rb hone q (.tmp 7) (.tmp 149) HD9.out rfl rfl rfl (by rw [HC2.out]; rfl) ?_; refine Hid.out ?_)
        refine Lib.hid ?_
        intro XT hXT hgX
        have hmT := hmc9.grown HD9.out hq4 (by decide) hgX
        have HRT : Hid (RefAt XT q n (armS s x.n) (j + 1)) :=
          Lib.hid ⟨d', sv, _, hXT, hone, HLS9.out.kept fun k cs hc => hgX.block k (blk_lt hc) (fun e => types_ne hc HD9.out (by decide) (Option.some.inj e)), HRC.out, by omega⟩
        have hFT : Hid (Fine (j + 1) (armS s x.n)) := Lib.hid (hF.out.arm x.n hxn2)
        generalize armS s x.n = sT at hmT HRT hFT
        generalize hgT : g = gT at hmT ⊢
        generalize bb = bT at hmT
        generalize fu5 = fT at hmT
        clear hXT hgX HD9 HLS9 HRC HC2 hmc9 hrb hlen hone hgT hac
      case' inr.inr.inr =>
        go_upto_region 14 with fail
        have h8 := hmA.crash (by omega) (by omega) (fun k y h => by obtain ⟨d, sv, ws, hd, hone, hls, hrel, hlen⟩ := HRA.out; exact (hrel.cut k y h).2) x.n
        have H8 := Lib.hid h8
        clear h8
        go_wp2_with fail
        refine H8.out.mono ?_
        rintro e' w8 ⟨gc, bc, rfl, hmc, hb8, _, _⟩
        have hA8 := (hb8.block e (blk_lt HA.out)).trans HA.out
        obtain ⟨d, sv, ws, hd, hone, hls, hrel, hlen⟩ := HRA.out.below hb8
        have h9 := refCrash_any d sv ws hrel.rb hone x.n (by omega) w8 hls
        have hrb := hrel.rb
        clear k0 k1 k2
        have k1 : w8.cell? ⟨e, 1, none⟩ = some (.int .i64 x.n) := by rw [blk_cell hA8]; rfl
        generalize hC : d.cells sv = C at h9
        have hkk : ∀ j v, C[j]? = some v → w8.cell? ⟨q, 0 + j, none⟩ = some v := fun j v hv => by rw [Nat.zero_add, hd.cell, hC]; exact hv
        have h71 : (Tryd.prog.info? 35).map (·.size) = some C.length := by rw [← hC]; exact sizeD d sv hrb
        have HKK := Lib.hid hkk
        have H71 := Lib.hid h71
        have HD := Lib.hid hd
        have HREL := Lib.hid hrel
        clear hkk h71 hd hrel hC hls H8 HRA hmA hA8
        go_wp2_with (refine wpList_load_at rfl 35 (.tmp 7) rfl q 0 rfl C _ HKK.out Tryd.underlying35 rfl H71.out ?_)
        refine h9.mono ?_
        rintro e' w9 ⟨s9, rfl, hone9, hls9, hb9⟩
        have hmc9 := hmc.later hb9
        have hD9 := HD.out.below hb9
        have hrc := HREL.out.crash x.n
        have htl : (tornW d x.n).length ≤ 1 := by unfold tornW; split <;> simp
        have HD9 := Lib.hid hD9
        have HLS9 := Lib.hid hls9
        have HRC := Lib.hid hrc
        clear h9 hmc HD HKK H71 hD9 hls9 hrc k1
        generalize hC2 : (newD d.n).cells s9 = C2
        have HC2 := Lib.hid hC2
        clear hC2
        go_wp2_with (refine wpList_putD d (newD d.n) sv s9 hrb (by simp [newD, noneW]) hone9 q (.tmp 7) (.tmp 64) HD9.out rfl rfl rfl (by rw [HC2.out]; rfl) ?_; refine Hid.out ?_)
        refine Lib.hid ?_
        intro XT hXT hgX
        have hmT := hmc9.grown HD9.out hq4 (by decide) hgX
        have HRT : Hid (RefAt XT q n (crashS s x.n) (j + 1)) :=
          Lib.hid ⟨newD d.n, s9, _, hXT, hone9, HLS9.out.kept fun k cs hc => hgX.block k (blk_lt hc) (fun e => types_ne hc HD9.out (by decide) (Option.some.inj e)), HRC.out, by rw [List.length_append]; omega⟩
        have hFT : Hid (Fine (j + 1) (crashS s x.n)) := Lib.hid (Fine.crash x.n)
        generalize crashS s x.n = sT at hmT HRT hFT
        generalize hgT : gc = gT at hmT ⊢
        generalize bc = bT at hmT
        generalize hfT : Value.pointer none = fT at hmT
        clear hXT hgX HD9 HLS9 HRC HC2 hmc9 hrb hlen hone hone9 htl HREL hgT hfT
      all_goals
        obtain ⟨d, sv, ws, hd, hone, hls, hrel, hlen⟩ := HRT.out
        have h11 := is6_any hmT.disk d sv ws hrel hn (by omega) hls
        have hrb := hrel.rb
        generalize hC : d.cells sv = C at h11
        have hkk : ∀ j v, C[j]? = some v → XT.cell? ⟨q, 0 + j, none⟩ = some v := fun j v hv => by rw [Nat.zero_add, hd.cell, hC]; exact hv
        have h71 : (Tryd.prog.info? 35).map (·.size) = some C.length := by rw [← hC]; exact sizeD d sv hrb
        have HKK := Lib.hid hkk
        have H71 := Lib.hid h71
        have HRD : Hid (RefAt XT q n sT (j + 1)) := Lib.hid ⟨d, sv, ws, hd, hone, hls, hrel, hlen⟩
        clear hkk h71 hd hls hrel hC HRT hone hlen hrb
        go_wp2_with (refine BigFrame.wpList_want rfl fun _ hK => wp_load_at 35 (.tmp 7) rfl q 0 rfl C _ HKK.out Tryd.underlying35 rfl H71.out (hK _ _ ?_))
        refine h11.mono ?_
        rintro e' w11 ⟨rfl, hb11⟩
        have hm11 := hmT.later hb11
        have hR11 := Lib.hid (HRD.out.below hb11)
        clear h11 hmT HRD HKK H71
        go_wp2_with fail
        go_roundw
        case rel => exact ⟨j + 1, gT, bT, fT, sT, by omega, by go_num, rfl, hm11, hR11, hFT⟩
        case measure => simp [intOf]; omega
    · go_wp2_with fail
      go_ret
      exact ⟨rfl, hm.below⟩

set_option maxHeartbeats 4000000 in
theorem plays6_any (n0 : Int) (pl : Option Addr) (l : List ActV) (cl : Nat) (w : World) (hG : ErrT w) (hl : l.length ≤ maxLen) (hL : ActsAt w pl l) (hw : ∀ x ∈ l, (0 ≤ x.k ∧ x.k ≤ 255) ∧ (-9223372036854775808 ≤ x.n ∧ x.n < 9223372036854775808)) :
    Calls Tryd.prog 3 #[.int .i64 n0, .slice pl l.length cl] w fun e w' => e = .returned (.bool true) ∧ Below w.heap.size w w' := by
  cases hf : fewB l with
  | true =>
    by_cases h : n0 < 1 ∨ 4096 < n0
    · exact plays6_no n0 h pl l cl w hG hL hf hl
    · obtain ⟨n, rfl⟩ : ∃ n : Nat, n0 = (n : Int) := ⟨n0.toNat, by omega⟩
      exact plays6_yes n (by omega) (by omega) pl l cl w hG hL hf hw
  | false =>
    have h0 := awake6_any w
    have HL := Lib.hid hL
    have Hl := Lib.hid hl
    clear hL hl
    go_enter Tryd.func3, Tryd.ntmps3
    go_wp2_with fail
    refine h0.mono ?_
    rintro e w1 ⟨rfl, hb1⟩
    have h1 := few_any pl l cl w1 Hl.out (fun i x hx => let ⟨a, h1, h2⟩ := HL.out i x hx; ⟨a, h1, h2.below hb1⟩)
    rw [hf] at h1
    clear h0 hf
    go_wp2_with fail
    refine h1.mono ?_
    rintro e w2 ⟨rfl, hb2⟩
    have h2 := awake6_any w2
    clear h1
    go_wp2_with fail
    refine h2.mono ?_
    rintro e w3 ⟨rfl, hb3⟩
    clear h2
    go_wp2_with fail
    go_ret
    have hB2 : Below w.heap.size w w2 := hb1.trans (hb2.mono hb1.size)
    exact ⟨rfl, hB2.trans (hb3.mono hB2.size)⟩

end Go.Proofs.YtlbfjnmhnpioaaaDoor
