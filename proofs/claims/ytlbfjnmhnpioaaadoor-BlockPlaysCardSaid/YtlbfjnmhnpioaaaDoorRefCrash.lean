/-
  The document's Crash.
-/
import Derived.Test.YtlbfjnmhnpioaaaDoorRefGrow
namespace Go.Proofs.YtlbfjnmhnpioaaaDoor
open Go.RowKit
set_option maxRecDepth 100000
set_option linter.unusedVariables false
set_option linter.unusedSimpArgs false

theorem built_ND2 (n : Int) (p : Option Addr) (a b : Nat) : Tryd.prog.built 35 [(0, .int .i64 n), (1, .slice p a b), (2, .agg NW), (4, .int .i64 (-1))] = some ((newD n).cells (.slice p a b)).toArray := by kernel_rfl
theorem alloc_D (w : World) : (Instr.alloc 35 true (.tuple #[])).run Tryd.prog w = .ok (.pointer (some ⟨w.heap.size, 0, none⟩)) (w.alloc (.cells ZD 35)) := by
  simp [Instr.alloc, zero_D, newVar, newRow]
  rfl
theorem load_n {w : World} {g : Nat} {d : DV} {s : Value} (h : DAt w g d s) : (loadVar 3 ⟨g, 0, none⟩).run Tryd.prog w = .ok (.int .i64 d.n) w := by
  have hc : w.cell? ⟨g, 0, none⟩ = some (.int .i64 d.n) := by rw [h.cell]; rfl
  simp [loadVar, isAgg, run_underlying Tryd.underlying3, load, hc]
  have hr := run_load (P := Tryd.prog) (w := w) ⟨g, 0, none⟩ .plain
  rw [hc] at hr
  exact hr
theorem row_slice {w : World} {b n : Nat} {e : TypeId} {size : Nat} {v : Value} {xs : List Value} (h : w.ownsRow b e size v n xs) : ∃ p a c, v = .slice p a c := by
  rcases h.2 with ⟨rfl, _⟩ | ⟨g, cap, cur, rfl, _⟩ <;> exact ⟨_, _, _, rfl⟩
section
variable {P : Program}
theorem wp_build_eq {o : Oper} {a : Act} {w : World} {K : Act → World → Prop} {Q : Exit → Act → World → Prop} (t : TypeId) (parts : Array (Nat × Operand)) (ho : o.op = .build t parts)
    (ps : List (Nat × Value)) (hev : parts.toList.map (fun x => (x.1, a.eval x.2)) = ps) (cells : Array Value) (hf : P.built t ps = some cells)
    (h : K (a.put o.dst (.agg cells)) w) : o.wp P a w K Q := by
  have e : (parts.map fun (i, x) => (i, a.eval x)).toList = ps := by rw [Array.toList_map]; exact hev
  refine wp_build t parts ho (by rw [e, hf]; rfl) ?_
  rw [e, hf]
  exact h
theorem wp_alloc_run {o : Oper} {a : Act} {w w' : World} {K : Act → World → Prop} {Q : Exit → Act → World → Prop} (t : TypeId) (v : Value) (ho : o.op = .alloc t)
    (hr : (Instr.alloc t true (.tuple #[])).run P w = .ok v w') (h : K (a.put o.dst v) w') : o.wp P a w K Q := by
  unfold Oper.wp execOp
  simp only [ho, hr, Sem.run_bind, Result.andThen_ok]
  exact h
end

structure CrashInv (W0 : World) (g : Nat) (d : DV) (s : Value) (ws : List WV) (L : Nat → Bool) (vs : Nat → Value) (w : World) : Prop where
  grown : W0.grownBy w none
  c5 : L 5 = true → L 2 = true ∧ L 4 = true
  c7 : L 7 = true → L 5 = true
  c9 : L 9 = true → L 7 = true ∧ L 8 = true
  i0 : L 0 = true → vs 0 = .pointer (some ⟨g, 0, none⟩)
  i1 : L 1 = true → vs 1 = .int .i64 d.n
  i2 : L 2 = true → L 5 = false → ∃ K, vs 2 = .slice (some ⟨K, 0, none⟩) 0 0 ∧ W0.heap.size ≤ K ∧ w.heap[K]? = some (.cells #[] 33 (0, 0))
  i3 : L 3 = true → vs 3 = .pointer (some ⟨g, 1, none⟩)
  i4 : L 4 = true → vs 4 = s
  i5 : L 5 = true → w.ownsRow W0.heap.size 33 66 (vs 5) ws.length (wsC ws)
  i6 : L 6 = true → vs 6 = .agg NW
  i7 : L 7 = true → vs 7 = .agg ((newD d.n).cells (vs 5)).toArray
  i8 : L 8 = true → ∃ q, vs 8 = .pointer (some ⟨q, 0, none⟩) ∧ W0.heap.size ≤ q ∧ w.heap[q]? = some (.cells (if L 9 then ((newD d.n).cells (vs 5)).toArray else ZD) 35 (0, 0))

section
variable {W0 : World} {g : Nat} {d : DV} {s : Value} {ws : List WV} {L : Nat → Bool} {vs : Nat → Value} {w : World}
theorem CrashInv.list (h : CrashInv W0 g d s ws L vs w) (hL : LAt W0 s ws) : LAt w s ws := by
  refine row_keep hL fun q hq => ?_
  obtain ⟨_, cur, hc⟩ := row_at hL hq
  exact h.grown.block q (blk_lt hc) (fun e => by cases e)
theorem CrashInv.disk (h : CrashInv W0 g d s ws L vs w) (hD : DAt W0 g d s) : DAt w g d s :=
  (h.grown.block g (blk_lt hD) (fun e => by cases e)).trans hD
theorem CrashInv.op0 (h : CrashInv W0 g d s ws L vs w) : CrashInv W0 g d s ws (fun j => L j || (j == 0)) (fun j => if j = 0 then .pointer (some ⟨g, 0, none⟩) else vs j) w :=
  ⟨h.grown, by simpa using h.c5, by simpa using h.c7, by simpa using h.c9, by simp, by simpa using h.i1, by simpa using h.i2, by simpa using h.i3, by simpa using h.i4, by simpa using h.i5, by simpa using h.i6, by simpa using h.i7, by simpa using h.i8⟩
theorem CrashInv.op1 (h : CrashInv W0 g d s ws L vs w) : CrashInv W0 g d s ws (fun j => L j || (j == 1)) (fun j => if j = 1 then .int .i64 d.n else vs j) w :=
  ⟨h.grown, by simpa using h.c5, by simpa using h.c7, by simpa using h.c9, by simpa using h.i0, by simp, by simpa using h.i2, by simpa using h.i3, by simpa using h.i4, by simpa using h.i5, by simpa using h.i6, by simpa using h.i7, by simpa using h.i8⟩
theorem CrashInv.op3 (h : CrashInv W0 g d s ws L vs w) : CrashInv W0 g d s ws (fun j => L j || (j == 3)) (fun j => if j = 3 then .pointer (some ⟨g, 1, none⟩) else vs j) w :=
  ⟨h.grown, by simpa using h.c5, by simpa using h.c7, by simpa using h.c9, by simpa using h.i0, by simpa using h.i1, by simpa using h.i2, by simp, by simpa using h.i4, by simpa using h.i5, by simpa using h.i6, by simpa using h.i7, by simpa using h.i8⟩
theorem CrashInv.op4 (h : CrashInv W0 g d s ws L vs w) : CrashInv W0 g d s ws (fun j => L j || (j == 4)) (fun j => if j = 4 then s else vs j) w :=
  ⟨h.grown, fun e => ⟨by simpa using (h.c5 (by simpa using e)).1, by simp⟩, by simpa using h.c7, by simpa using h.c9, by simpa using h.i0, by simpa using h.i1, by simpa using h.i2, by simpa using h.i3, by simp, by simpa using h.i5, by simpa using h.i6, by simpa using h.i7, by simpa using h.i8⟩
theorem CrashInv.op6 (h : CrashInv W0 g d s ws L vs w) : CrashInv W0 g d s ws (fun j => L j || (j == 6)) (fun j => if j = 6 then .agg NW else vs j) w :=
  ⟨h.grown, by simpa using h.c5, by simpa using h.c7, by simpa using h.c9, by simpa using h.i0, by simpa using h.i1, by simpa using h.i2, by simpa using h.i3, by simpa using h.i4, by simpa using h.i5, by simp, by simpa using h.i7, by simpa using h.i8⟩
theorem CrashInv.op7 (h : CrashInv W0 g d s ws L vs w) (h5 : L 5 = true) : CrashInv W0 g d s ws (fun j => L j || (j == 7)) (fun j => if j = 7 then .agg ((newD d.n).cells (vs 5)).toArray else vs j) w :=
  ⟨h.grown, by simpa using h.c5, by simp [h5], by simpa using fun e => (h.c9 e).2, by simpa using h.i0, by simpa using h.i1, by simpa using h.i2, by simpa using h.i3, by simpa using h.i4, by simpa using h.i5, by simpa using h.i6, by simp, by simpa using h.i8⟩
theorem CrashInv.op2 (h : CrashInv W0 g d s ws L vs w) (h2 : L 2 = false) :
    CrashInv W0 g d s ws (fun j => L j || (j == 2)) (fun j => if j = 2 then .slice (some ⟨w.heap.size, 0, none⟩) 0 0 else vs j) (w.alloc (.cells #[] 33)) := by
  have h5 : L 5 = false := by cases hc : L 5 with | false => rfl | true => rw [(h.c5 hc).1] at h2; cases h2
  refine ⟨grow_trans h.grown (grow_alloc w _ none) (fun q e => by cases e), by simp [h5], by simpa using h.c7, by simpa using h.c9, by simpa using h.i0, by simpa using h.i1, ?_, by simpa using h.i3, by simpa using h.i4, by simp [h5], by simpa using h.i6, by simpa using h.i7, ?_⟩
  · intro _ _; exact ⟨w.heap.size, rfl, h.grown.size, heap_alloc_new w _⟩
  · intro e
    obtain ⟨q, f1, f2, f3⟩ := h.i8 (by simpa using e)
    exact ⟨q, f1, f2, (heap_alloc_old w _ (blk_lt f3)).trans (by simpa using f3)⟩
theorem CrashInv.op8 (h : CrashInv W0 g d s ws L vs w) (h8 : L 8 = false) :
    CrashInv W0 g d s ws (fun j => L j || (j == 8)) (fun j => if j = 8 then .pointer (some ⟨w.heap.size, 0, none⟩) else vs j) (w.alloc (.cells ZD 35)) := by
  have h9 : L 9 = false := by cases hc : L 9 with | false => rfl | true => rw [(h.c9 hc).2] at h8; cases h8
  refine ⟨grow_trans h.grown (grow_alloc w _ none) (fun q e => by cases e), by simpa using h.c5, by simpa using h.c7, by simp [h9], by simpa using h.i0, by simpa using h.i1, ?_, by simpa using h.i3, by simpa using h.i4, ?_, by simpa using h.i6, by simpa using h.i7, ?_⟩
  · intro e0 e3
    obtain ⟨K, f1, f2, f3⟩ := h.i2 (by simpa using e0) (by simpa using e3)
    exact ⟨K, f1, f2, (heap_alloc_old w _ (blk_lt f3)).trans f3⟩
  · intro e3
    refine row_keep (by simpa using h.i5 (by simpa using e3)) fun q hq => ?_
    obtain ⟨_, cur, hc⟩ := row_at (h.i5 (by simpa using e3)) (by simpa using hq)
    exact heap_alloc_old w _ (blk_lt hc)
  · intro _
    refine ⟨w.heap.size, rfl, h.grown.size, ?_⟩
    simp only [h9]
    exact heap_alloc_new w _
theorem CrashInv.op5 (h : CrashInv W0 g d s ws L vs w) (hL : LAt W0 s ws) (hn : ws.length ≤ 100000) (h5 : L 5 = false) (h2 : L 2 = true) (h4 : L 4 = true) (ty : TypeId) :
    ∃ v' w', (Builtin.append_ #[30, 30] ty #[vs 2, s]).run Tryd.prog w = .ok v' w' ∧ CrashInv W0 g d s ws (fun j => L j || (j == 5)) (fun j => if j = 5 then v' else vs j) w' := by
  have h7 : L 7 = false := by cases hc : L 7 with | false => rfl | true => rw [h.c7 hc] at h5; cases h5
  have h9 : L 9 = false := by cases hc : L 9 with | false => rfl | true => rw [(h.c9 hc).1] at h7; cases h7
  obtain ⟨K, f1, f2, f3⟩ := h.i2 h2 h5
  obtain ⟨v', w', hr, hrow, hgr, hv⟩ := run_app0 f3 (h.list hL) hn ty
  refine ⟨v', w', by rw [f1]; exact hr, grow_trans h.grown hgr (fun q e hq => by injection e with e; omega), by simp [h2, h4], by simp, by simp [h9], by simpa using h.i0, by simpa using h.i1, by simp, by simpa using h.i3, by simpa using h.i4, ?_, by simpa using h.i6, by simp [h7], ?_⟩
  · intro _; simpa using row_mono hrow f2
  · intro e
    obtain ⟨q, e1, e2, e3⟩ := h.i8 (by simpa using e)
    refine ⟨q, e1, e2, ?_⟩
    simp only [h9] at e3 ⊢
    exact (hgr.block q (blk_lt e3) (fun e => types_ne e3 f3 (by decide) (Option.some.inj e))).trans e3
theorem CrashInv.op9 (h : CrashInv W0 g d s ws L vs w) (h9 : L 9 = false) (h7 : L 7 = true) (q : Nat) (hq : vs 8 = .pointer (some ⟨q, 0, none⟩)) (h8 : L 8 = true) (v : Value) :
    CrashInv W0 g d s ws (fun j => L j || (j == 9)) (fun j => if j = 9 then v else vs j) (w.setRow q ((newD d.n).cells (vs 5)).toArray) := by
  have h5 := h.c7 h7
  obtain ⟨q', e1, e2, e3⟩ := h.i8 h8
  rw [hq] at e1
  injection e1 with e1; injection e1 with e1; injection e1 with e1 _ _
  subst e1
  have hrow := h.i5 h5
  refine ⟨grow_trans (r' := some q) h.grown ⟨rfl, rfl, rfl, by simp, fun k _ hk => setRow_other w q k _ (fun e => hk (by rw [e]))⟩ (fun k e hk => by injection e with e; omega), by simpa using h.c5, by simpa using h.c7, by simp [h7, h8], by simpa using h.i0, by simpa using h.i1, by simp [h5], by simpa using h.i3, by simpa using h.i4, ?_, by simpa using h.i6, by simpa using h.i7, ?_⟩
  · intro _
    refine row_keep (by simpa using hrow) fun k hk => ?_
    obtain ⟨_, cur, hc⟩ := row_at hrow (by simpa using hk)
    exact setRow_other w q k _ (fun e => types_ne hc e3 (by decide) (by omega))
  · intro _
    refine ⟨q, by simpa using hq, e2, ?_⟩
    simp
    exact setRow_heap _ _ _ _ _ _ e3
end

/-- What a crash leaves of the one that was refused. -/
def tornW (d : DV) (torn : Int) : List WV := if 0 ≤ d.r.i ∧ 0 < torn then [{ d.r with laid := if 64 < torn then 64 else torn }] else []
theorem refused_at {w : World} {g : Nat} {d : DV} {s : Value} (h : DAt w g d s) (hb : d.r.b.length = 64) (j : Nat) (v : Value) (hv : d.r.cells[j]? = some v) : w.cell? ⟨g, 2 + j, none⟩ = some v := by
  rw [h.cell]
  have hj := (List.getElem?_eq_some_iff.1 hv).1
  show (.int .i64 d.n :: s :: (d.r.cells ++ [.bool d.dead, .int .i64 d.fuse, .int .i64 d.steps]))[2 + j]? = _
  rw [show 2 + j = j + 1 + 1 by omega, List.getElem?_cons_succ, List.getElem?_cons_succ, List.getElem?_append_left hj]
  exact hv
theorem WAt.laid {w : World} {g : Nat} {x : WV} (h : WAt w g x) (hb : x.b.length = 64) (m : Int) : WAt (w.setCell ⟨g, 65, none⟩ (.int .i64 m)) g { x with laid := m } := by
  have := blk_set h 65 (.int .i64 m)
  rw [List.setIfInBounds_toArray] at this
  have e : x.cells.set 65 (.int .i64 m) = ({ x with laid := m } : WV).cells := by
    unfold WV.cells
    rw [List.set_cons_succ, List.set_append_right _ _ (by rw [len_bytesV]; omega), len_bytesV, hb]
    rfl
  rw [e] at this
  exact this
theorem WAt.cell65 {w : World} {g : Nat} {x : WV} (h : WAt w g x) (hb : x.b.length = 64) : w.cell? ⟨g, 65, none⟩ = some (.int .i64 x.laid) := by
  rw [blk_cell h, List.getElem?_toArray]
  unfold WV.cells
  rw [List.getElem?_cons_succ, List.getElem?_append_right (by rw [len_bytesV]; omega), len_bytesV, hb]
  rfl

theorem results_cell_only {fn : Func} {t : Tmp} {ty : TypeId} (h : fn.results = #[.cell t ty]) (tmps : Array Value) (P : Program) (w : World) (a : Addr) (hp : tmps.getD t undef = .pointer (some a))
    (v : Value) (hl : (loadVar ty a).run P w = .ok v w) :
    (results fn tmps).run P w = .ok v w := by
  have hp2 : (tmps[t]?).getD undef = .pointer (some a) := by rw [← hp]; simp
  simp [results, h, hp2, hl, asAddr]

set_option maxRecDepth 100000 in
set_option maxHeartbeats 800000 in
theorem refCrash_any (d : DV) (s : Value) (ws : List WV) (hb : d.r.b.length = 64) (hs : s.oneCell' = true) (torn : Int) (hn : ws.length ≤ 99999) (w : World) (hLs : LAt w s ws) :
    Calls Tryd.prog 16 #[.agg (d.cells s).toArray, .int .i64 torn] w fun e w' => ∃ s', e = .returned (.agg ((newD d.n).cells s').toArray) ∧ s'.oneCell' = true ∧ LAt w' s' (ws ++ tornW d torn) ∧ Below w.heap.size w w' := by
  have HLS := Lib.hid hLs
  clear hLs
  have hz := zero_D
  obtain ⟨hB1, hD1, hZ1, hS1⟩ := start_D w d s
  generalize hC : (d.cells s).toArray = C at hB1 hD1 hZ1 hS1 ⊢
  go_enter Tryd.func16, Tryd.ntmps16
  go_upto_region 1 with fail
  clear hz
  generalize ((w.alloc (.cells C 35)).alloc (.cells ZD 35)) = W2 at hB1 hD1 hZ1 hS1 ⊢
  have hL2 : LAt W2 s ws := by
    refine row_keep HLS.out fun q hq' => ?_
    obtain ⟨_, cur, hc⟩ := row_at HLS.out hq'
    exact hB1.block q (blk_lt hc)
  refine wp_name ?_
  intro a0 ha0
  have e2 : a0.eval (.tmp 2) = .pointer (some ⟨w.heap.size, 0, none⟩) := by rw [ha0]; rfl
  have hsz : 20 < a0.tmps.size := by rw [ha0]; exact Nat.le_of_ble_eq_true rfl
  refine wp_region_frame rfl [7, 8, 9, 10, 11, 12, 13, 14, 5] (by decide) (CrashInv W2 w.heap.size d s ws) ?_ ?_ ?_ ?_ ?_ ?_
  · intro i o ho
    rcases i with _ | _ | _ | _ | _ | _ | _ | _ | _ | _ | i <;> first | (injection ho with ho; subst ho; rfl) | (simp at ho)
  · intro i o ho
    rcases i with _ | _ | _ | _ | _ | _ | _ | _ | _ | _ | i <;> first | (injection ho with ho; subst ho; rfl) | (simp at ho)
  · intro i o ho
    rcases i with _ | _ | _ | _ | _ | _ | _ | _ | _ | _ | i <;> first | (injection ho with ho; subst ho; simp) | (simp at ho)
  · exact ⟨⟨rfl, rfl, rfl, Nat.le_refl _, fun _ _ _ => rfl⟩, by simp, by simp, by simp, by simp, by simp, by simp, by simp, by simp, by simp, by simp, by simp, by simp⟩
  · intro L vs w' hI j o ho hLi haf K hK
    rcases j with _ | _ | _ | _ | _ | _ | _ | _ | _ | _ | j
    · injection ho with ho; subst ho
      exact wp_run_val 35 (.tmp 2) 0 _ _ rfl (by rw [frameAt_out _ _ _ _ rfl]; exact e2) (field_n w' w.heap.size) (hK _ _ hI.op0)
    · injection ho with ho; subst ho
      have l0 := haf ⟨0, .data⟩ (by simp) rfl
      exact wp_load_run 3 (.tmp 7) _ _ rfl (by rw [frameAt_in _ _ _ 7 0 rfl (by omega)]; exact hI.i0 l0) (load_n (hI.disk hD1)) (hK _ _ hI.op1)
    · injection ho with ho; subst ho
      exact wp_empty 30 33 rfl Tryd.underlying30 (by kernel_rfl) (hK _ _ (hI.op2 hLi))
    · injection ho with ho; subst ho
      exact wp_run_val 35 (.tmp 2) 1 _ _ rfl (by rw [frameAt_out _ _ _ _ rfl]; exact e2) (field_list w' w.heap.size) (hK _ _ hI.op3)
    · injection ho with ho; subst ho
      have l3 := haf ⟨3, .data⟩ (by simp) rfl
      exact wp_load_run 30 (.tmp 10) _ _ rfl (by rw [frameAt_in _ _ _ 10 3 rfl (by omega)]; exact hI.i3 l3) (load_list (hI.disk hD1)) (hK _ _ hI.op4)
    · injection ho with ho; subst ho
      have l2 := haf ⟨2, .data⟩ (by simp) rfl
      have l4 := haf ⟨4, .data⟩ (by simp) rfl
      obtain ⟨v', w2, hr, hI2⟩ := hI.op5 hL2 (by omega) hLi l2 l4 30
      exact wp_append_run (.tmp 9) (.tmp 11) 30 rfl _ _ _ (frameAt_in _ _ _ 9 2 rfl (by omega)) ((frameAt_in _ _ _ 11 4 rfl (by omega)).trans (hI.i4 l4)) hr (hK _ _ hI2)
    · injection ho with ho; subst ho
      exact wp_build_eq 33 _ rfl _ rfl NW built_NW (hK _ _ hI.op6)
    · injection ho with ho; subst ho
      have l1 := haf ⟨1, .data⟩ (by simp) rfl
      have l5 := haf ⟨5, .data⟩ (by simp) rfl
      have l6 := haf ⟨6, .data⟩ (by simp) rfl
      obtain ⟨p, a, c, hv⟩ := row_slice (hI.i5 l5)
      refine wp_build_eq 35 _ rfl _ ?_ _ (built_ND2 d.n p a c) ?_
      · simp only [List.map_cons, List.map_nil]
        rw [frameAt_in _ _ _ 8 1 rfl (by omega), hI.i1 l1, frameAt_in _ _ _ 12 5 rfl (by omega), hv, frameAt_in _ _ _ 13 6 rfl (by omega), hI.i6 l6]
        rfl
      · rw [← hv]
        exact hK _ _ (hI.op7 l5)
    · injection ho with ho; subst ho
      exact wp_alloc_run 35 _ rfl (alloc_D w') (hK _ _ (hI.op8 hLi))
    · injection ho with ho; subst ho
      have l8 := haf ⟨8, .data⟩ (by simp) rfl
      have l7 := haf ⟨7, .data⟩ (by simp) rfl
      obtain ⟨q, f1, f2, f3⟩ := hI.i8 l8
      simp only [hLi] at f3
      have h5 := hI.i5 (hI.c7 l7)
      have hlen : ((newD d.n).cells (vs 5)).length = 71 := DV.len _ _ (by simp [newD, noneW])
      have h71 : (((newD d.n).cells (vs 5)).toArray).size = 71 := by rw [List.size_toArray, hlen]
      exact wp_store_run 35 (.tmp 5) (.tmp 14) _ _ rfl (by rw [frameAt_in _ _ _ 5 8 rfl (by omega)]; exact f1) ((frameAt_in _ _ _ 14 7 rfl (by omega)).trans (hI.i7 l7))
        (run_storeVar_row w' q 35 35 ZD _ f3 (by rw [h71]; exact size_D) (by rw [h71]; rfl) (by rw [Array.all_eq_true_iff_forall_mem]; intro v hv; exact DV.one (newD d.n) (vs 5) (row_one h5).2 v (by simpa using hv)))
        (hK _ _ (hI.op9 hLi l7 q f1 l8 _))
    · simp at ho
  · intro L vs w' hI hall
    obtain ⟨q, f1, f2, f3⟩ := hI.i8 (hall 8 (by decide))
    have h9 := hall 9 (by decide)
    rw [if_pos h9] at f3
    have hrow := hI.i5 (hall 5 (by decide))
    have hone := row_one hrow
    have hD3 : DAt w' q (newD d.n) (vs 5) := f3
    have hL3 : LAt w' (vs 5) ws := row_mono hrow (Nat.zero_le _)
    have hown : ∀ k, (vs 5).ownBlock = some k → w.heap.size ≤ k := fun k hk => by have := (row_at hrow hk).1; omega
    have hD4 : DAt w' w.heap.size d s := hI.disk hD1
    have hZ3 : ZAt w' (w.heap.size + 1) := (hI.grown.block _ (blk_lt hZ1) (fun e => by cases e)).trans hZ1
    have hB3 : Below w.heap.size w w' := hB1.grown hI.grown hB1.size (fun k hk => by cases hk)
    have hqge : w.heap.size + 2 ≤ q := by omega
    have hqlt := blk_lt f3
    rw [frameAt_putAll a0 _ (by decide) vs, ha0]
    simp only [putAll, f1, Nat.reduceAdd]
    generalize vs 5 = s' at hone hD3 hL3 hown
    have HOWN := Lib.hid hown
    clear hown
    clear hrow hI hall h9 f3 f2 f1 hL2 hD1 hZ1 hS1 e2 hsz
    have c2 : w'.cell? ⟨w.heap.size, 2, none⟩ = some (.int .i64 d.r.i) := refused_at hD4 hb 0 _ rfl
    have HD3 := Lib.hid hD3
    have HD4 := Lib.hid hD4
    have HL3 := Lib.hid hL3
    have HZ3 := Lib.hid hZ3
    have HC := Lib.hid hC
    clear hD3 hD4 hL3 hZ3 hC ha0 HLS
    have hend : ∀ (X : World) (s' : Value) (ws' : List WV), DAt X q (newD d.n) s' → ZAt X (w.heap.size + 1) → LAt X s' ws' → Below w.heap.size w X → s'.oneCell' = true → ws' = ws ++ tornW d torn → ∀ X', DAt X' (w.heap.size + 1) (newD d.n) s' → X.grownBy X' (some (w.heap.size + 1)) →
        LAt X' s' (ws ++ tornW d torn) ∧ Below w.heap.size w X' := by
      intro X s' ws' h1 h2 h3 h4 h5 h6 X' h7 h8
      subst h6
      refine ⟨row_keep h3 fun k hk => ?_, h4.grown h8 h4.size (fun k hk => by injection hk with hk; omega)⟩
      obtain ⟨_, cur, hc⟩ := row_at h3 hk
      exact h8.block k (blk_lt hc) (fun e => types_ne hc h2 (by decide) (Option.some.inj e))
    have HEND := Lib.hid hend
    clear hend
    change Exit.then _ _ .normal (Act.put (Act.mk _ _) _ _) w'
    simp only [Act.put, List.setIfInBounds_toArray, List.set_cons_succ, List.set_cons_zero]
    by_cases hc : 0 ≤ d.r.i ∧ 0 < torn
    case' pos =>
      have htw : tornW d torn = [{ d.r with laid := if 64 < torn then 64 else torn }] := if_pos hc
      have HTW := Lib.hid htw
      clear htw
      obtain ⟨hri, htn⟩ := hc
      have hrr : ∀ j v, d.r.cells[j]? = some v → w'.cell? ⟨w.heap.size, 2 + j, none⟩ = some v := fun j v hj => refused_at HD4.out hb j v hj
      generalize hR : d.r.cells = R at hrr
      have h66 : (Tryd.prog.info? 33).map (·.size) = some R.length := by rw [← hR]; exact sizeW _ hb
      have HR := Lib.hid hR
      have HRR := Lib.hid hrr
      have H66 := Lib.hid h66
      have hzW := zero_W
      clear hR hrr h66
      go_upto_region 3 with fail
      go_wp2_with (first | (refine store_newW d.r hb rfl (.tmp 6) (.tmp 24) rfl rfl (by rw [HR.out]; rfl) ?_) | (refine wpList_load_at rfl 33 (.tmp 23) rfl w.heap.size 2 rfl R _ HRR.out Tryd.underlying33 rfl H66.out ?_))
      intro X hX hBX hSX
      have hB4 : Below w.heap.size w X := hB3.trans (hBX.mono hB3.size)
      have hD5 := HD3.out.below hBX
      have hZ5 : ZAt X (w.heap.size + 1) := (hBX.block _ (blk_lt HZ3.out)).trans HZ3.out
      have hL5 : LAt X s' ws := by
        refine row_keep HL3.out fun k hk => ?_
        obtain ⟨_, cur, hc⟩ := row_at HL3.out hk
        exact hBX.block k (blk_lt hc)
      have c65 := hX.cell65 hb
      have f65 := blk_frozen hX 65
      have hwl : w'.heap.size < X.heap.size := by omega
      have hB3s := hB3.size
      have HX := Lib.hid hX
      have HD5 := Lib.hid hD5
      have HZ5 := Lib.hid hZ5
      have HL5 := Lib.hid hL5
      clear hX hD5 hZ5 hL5 hzW c2 hSX
      go_upto_region 5 with fail
      generalize hm : (if 64 < torn then 64 else torn) = m at HTW ⊢
      have hW6 := HX.out.laid hb m
      have hD6 : DAt (X.setCell ⟨w'.heap.size, 65, none⟩ (.int .i64 m)) q (newD d.n) s' := (Below.heap_setCell _ ⟨w'.heap.size, 65, none⟩ _ _ (by show q ≠ w'.heap.size; omega)).trans HD5.out
      have hZ6 : ZAt (X.setCell ⟨w'.heap.size, 65, none⟩ (.int .i64 m)) (w.heap.size + 1) := (Below.heap_setCell _ ⟨w'.heap.size, 65, none⟩ _ _ (by show w.heap.size + 1 ≠ w'.heap.size; omega)).trans HZ5.out
      have hB6 : Below w.heap.size w (X.setCell ⟨w'.heap.size, 65, none⟩ (.int .i64 m)) := hB4.setCell (by show w.heap.size ≤ w'.heap.size; omega) _
      have hL6 : LAt (X.setCell ⟨w'.heap.size, 65, none⟩ (.int .i64 m)) s' ws := by
        refine row_keep HL5.out fun k hk => ?_
        obtain ⟨_, cur, hc⟩ := row_at HL3.out hk
        exact Below.heap_setCell _ ⟨w'.heap.size, 65, none⟩ _ _ (by have := blk_lt hc; show k ≠ w'.heap.size; omega)
      have hs6 : (X.setCell ⟨w'.heap.size, 65, none⟩ (.int .i64 m)).heap.size = X.heap.size := by simp
      generalize X.setCell ⟨w'.heap.size, 65, none⟩ (.int .i64 m) = W6 at hW6 hD6 hZ6 hB6 hL6 hs6 ⊢
      generalize hx0 : ({ d.r with laid := m } : WV) = x0 at hW6 HTW
      have hxb : x0.b.length = 64 := by rw [← hx0]; exact hb
      have k1 : W6.cell? ⟨q, 1, none⟩ = some s' := by rw [hD6.cell]; rfl
      have hx66 : (x0.cells.toArray).size = 66 := by rw [List.size_toArray, x0.len hxb]
      have hk6 : ∀ j v, x0.cells[j]? = some v → W6.cell? ⟨w'.heap.size, 0 + j, none⟩ = some v := fun j v hj => by rw [Nat.zero_add, blk_cell hW6, List.getElem?_toArray]; exact hj
      obtain ⟨v7, w7, hr7, hrow7, hg7⟩ := run_app1 (w := W6.alloc (.cells x0.cells.toArray 33)) (b := 0) (k := W6.heap.size) (c := 1) (x := x0) (v := s') (n := ws.length) (xs := wsC ws)
        (row_keep hL6 (fun k hk => by obtain ⟨_, cur, hc⟩ := row_at hL6 hk; exact heap_alloc_old _ _ (blk_lt hc))) (by omega) hxb (heap_alloc_new _ _) (Nat.zero_le _) 30
      have hD7 : DAt w7 q (newD d.n) s' := (hg7.block q (by have := blk_lt hD6; simp; omega) (fun e => by
        obtain ⟨_, cur, hc⟩ := row_at hL6 e.symm
        exact types_ne hc hD6 (by decide) rfl)).trans ((heap_alloc_old _ _ (blk_lt hD6)).trans hD6)
      have hZ7 : ZAt w7 (w.heap.size + 1) := (hg7.block _ (by have := blk_lt hZ6; simp; omega) (fun e => by
        obtain ⟨_, cur, hc⟩ := row_at hL6 e.symm
        exact types_ne hc hZ6 (by decide) rfl)).trans ((heap_alloc_old _ _ (blk_lt hZ6)).trans hZ6)
      have hB7 : Below w.heap.size w w7 := (hB6.alloc hB6.size _).grown hg7 (hB6.alloc hB6.size _).size (fun k hk => HOWN.out k hk)
      have hone7 := row_one hrow7
      have f1 := blk_frozen hD7 1
      have k7 : w7.cell? ⟨q, 1, none⟩ = some s' := by rw [hD7.cell]; rfl
      have hL7 : LAt w7 v7 (ws ++ [x0]) := by
        unfold LAt wsC
        rw [List.length_append, List.flatMap_append]
        simp only [List.flatMap_cons, List.flatMap_nil, List.append_nil]
        exact hrow7
      obtain ⟨ie, hie, hzz, hs66, _⟩ := infoW
      have hfill : Instr.fill (fun i => some (i * ie.size, ie.size)) ((Array.range (1 * ie.size)).map ((Value.agg ZW).cells[· % (Value.agg ZW).cells.size]!)) [(0, .agg x0.cells.toArray)] = some x0.cells.toArray := by
        rw [hs66]
        exact fill_one _ _ 66 hx66 (by simp)
      generalize hX : x0.cells.toArray = X0 at hr7 hk6 hfill
      generalize hXl : x0.cells = xl at hk6
      have h66x : (Tryd.prog.info? 33).map (·.size) = some xl.length := by rw [← hXl]; exact sizeW _ hxb
      have hXX : xl.toArray = X0 := by rw [← hXl, hX]
      subst hXX
      have HXL := Lib.hid hXl
      have HK6 := Lib.hid hk6
      have H66X := Lib.hid h66x
      have HFILL := Lib.hid hfill
      have HR7 := Lib.hid hr7
      have HL7 := Lib.hid hL7
      have HZ7 := Lib.hid hZ7
      have HD7 := Lib.hid hD7
      have HIE := Lib.hid hie
      have HZZ := Lib.hid hzz
      have HS66 := Lib.hid hs66
      have HX0 := Lib.hid hX
      have HD6 := Lib.hid hD6
      clear hX hXl hk6 h66x hfill hr7 hL7 hZ7 hD7 hie hzz hs66 hrow7 hg7 hL6 hD6 hZ6 hW6 hx66 hm hx0 hs6 c65 f65
      refine wp_region_lit ?_
      refine wpList_plain rfl fun _ hK => wp_run_val 35 (.tmp 5) 1 _ _ rfl rfl (field_list W6 q) (hK _ _ ?_)
      simp only [Act.put, List.setIfInBounds_toArray, List.set_cons_succ, List.set_cons_zero]
      refine wpList_plain rfl fun _ hK => wp_load_run 30 (.tmp 28) _ _ rfl rfl (load_list HD6.out) (hK _ _ ?_)
      simp only [Act.put, List.setIfInBounds_toArray, List.set_cons_succ, List.set_cons_zero]
      refine wpList_load_at rfl 33 (.tmp 6) rfl w'.heap.size 0 rfl xl _ HK6.out Tryd.underlying33 rfl H66X.out ?_
      simp only [Act.put, List.setIfInBounds_toArray, List.set_cons_succ, List.set_cons_zero]
      refine wpList_buildSlice rfl 30 33 1 #[(0, .tmp 30)] rfl xl.toArray _ _ Tryd.underlying30 HIE.out HZZ.out (by rw [HS66.out]; decide) (by rw [HS66.out]; decide) (by simp only [List.map_toArray, List.map_cons, List.map_nil]; exact HFILL.out) ?_
      simp only [Act.put, List.setIfInBounds_toArray, List.set_cons_succ, List.set_cons_zero]
      refine Lib.wpList_append_run _ rfl (.tmp 29) (.tmp 31) 30 30 rfl _ _ rfl rfl v7 w7 HR7.out ?_
      simp only [Act.put, List.setIfInBounds_toArray, List.set_cons_succ, List.set_cons_zero]
      refine wpList_plain rfl fun _ hK => wp_run_val 35 (.tmp 5) 1 _ _ rfl rfl (field_list w7 q) (hK _ _ ?_)
      simp only [Act.put, List.setIfInBounds_toArray, List.set_cons_succ, List.set_cons_zero]
      refine wpList_plain rfl fun _ hK => wp_store_run 30 (.tmp 33) (.tmp 32) _ _ rfl rfl rfl (store_list HD7.out v7 hone7.1 hone7.2) (hK _ _ ?_)
      simp only [Act.put, List.setIfInBounds_toArray, List.set_cons_succ, List.set_cons_zero]
      have hD8 : DAt (w7.setCell ⟨q, 1, none⟩ v7) q (newD d.n) v7 := HD7.out.list v7
      have hB8 : Below w.heap.size w (w7.setCell ⟨q, 1, none⟩ v7) := hB7.setCell (by show w.heap.size ≤ q; omega) _
      have hZ8 : ZAt (w7.setCell ⟨q, 1, none⟩ v7) (w.heap.size + 1) := (Below.heap_setCell _ ⟨q, 1, none⟩ _ _ (by show w.heap.size + 1 ≠ q; omega)).trans HZ7.out
      have hL8 : LAt (w7.setCell ⟨q, 1, none⟩ v7) v7 (ws ++ [x0]) := by
        refine row_keep HL7.out fun k hk => ?_
        obtain ⟨_, cur, hc⟩ := row_at HL7.out hk
        exact Below.heap_setCell _ ⟨q, 1, none⟩ _ _ (fun e => types_ne hc HD7.out (by decide) e)
      generalize w7.setCell ⟨q, 1, none⟩ v7 = W8 at hD8 hB8 hZ8 hL8 ⊢
      have HD8 := Lib.hid hD8
      have HZ8 := Lib.hid hZ8
      have HL8 := Lib.hid hL8
      clear hD8 hZ8 hL8 HD7 HZ7 HL7 HR7 HFILL HK6 HIE HZZ HS66 H66X f1 k7 k1
      refine wpList_nil ?_
      go_upto_region 6 with fail
      refine wp_region_lit ?_
      refine wpList_give (newD d.n) v7 (by simp [newD, noneW]) hone7.2 q (w.heap.size + 1) 34 (.tmp 5) (.tmp 4) HD8.out HZ8.out rfl rfl rfl rfl rfl rfl rfl (by simp) ?_
      intro X' hX' hg
      have hld := hX'.load (by simp [newD, noneW])
      have HQ := Lib.hid (HEND.out W8 v7 (ws ++ [x0]) HD8.out HZ8.out HL8.out hB8 hone7.2 (by rw [HTW.out]) X' hX' hg)
      have HLD := Lib.hid hld
      clear hld hX'
      generalize hY : (DV.cells (newD d.n) v7).toArray = Y at HLD ⊢
      have HY := Lib.hid hY
      clear hY
      go_wp2_with fail
      exact bodyPost_ret (results_cell_only rfl _ _ X' ⟨w.heap.size + 1, 0, none⟩ rfl (.agg Y) HLD.out) rfl ⟨v7, by rw [HY.out], hone7.2, HQ.out⟩
    case' neg =>
      have htw : tornW d torn = [] := if_neg hc
      have HTW := Lib.hid htw
      clear htw
      by_cases hri : 0 ≤ d.r.i
      case' pos =>
        have htn : ¬ 0 < torn := fun h => hc ⟨hri, h⟩
        clear hc
        go_upto_region 6 with fail
      case' neg =>
        clear hc
        go_upto_region 6 with fail
      all_goals
        refine wp_region_lit ?_
        refine wpList_give (newD d.n) s' (by simp [newD, noneW]) hone.2 q (w.heap.size + 1) 34 (.tmp 5) (.tmp 4) HD3.out HZ3.out rfl rfl rfl rfl rfl rfl rfl (by simp) ?_
        intro X' hX' hg
        have hld := hX'.load (by simp [newD, noneW])
        have HQ := Lib.hid (HEND.out w' s' ws HD3.out HZ3.out HL3.out hB3 hone.2 (by rw [HTW.out, List.append_nil]) X' hX' hg)
        have HLD := Lib.hid hld
        clear hld hX'
        generalize hY : (DV.cells (newD d.n) s').toArray = Y at HLD ⊢
        have HY := Lib.hid hY
        clear hY
        go_wp2_with fail
        exact bodyPost_ret (results_cell_only rfl _ _ X' ⟨w.heap.size + 1, 0, none⟩ rfl (.agg Y) HLD.out) rfl ⟨s', by rw [HY.out], hone.2, HQ.out⟩

end Go.Proofs.YtlbfjnmhnpioaaaDoor
