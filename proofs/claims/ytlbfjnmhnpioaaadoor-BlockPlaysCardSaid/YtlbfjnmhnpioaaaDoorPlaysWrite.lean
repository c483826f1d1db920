/-
  BlockPlays: the statement that writes (it draws its order).
-/
import Derived.Test.YtlbfjnmhnpioaaaDoorPlaysRef
namespace Go.Proofs.YtlbfjnmhnpioaaaDoor
open Go.RowKit
set_option maxRecDepth 100000
set_option linter.unusedVariables false
set_option linter.unusedSimpArgs false

theorem row_bytes {w : World} {K : Nat} {v : Value} {b : List UInt8} (h : w.ownsRow K 5 1 v b.length (bytesV b)) : ∃ A c, v = .slice A b.length c ∧ BytesAt w A b := by
  rcases h.2 with ⟨rfl, h0⟩ | ⟨g, cap, cur, rfl, _⟩
  · exact ⟨none, 0, by rw [h0], .inl (List.eq_nil_of_length_eq_zero h0)⟩
  · exact ⟨some ⟨g, 0, none⟩, cap, rfl, .inr ⟨_, rfl, fun j u hj => h.cells (g := g) rfl j u hj⟩⟩
/-- 'append([]byte{}, b...)'. -/
theorem run_appB {w : World} {K : Nat} {p : Option Addr} {b : List UInt8} {c : Nat} (hK : w.heap[K]? = some (.cells #[] 5 (0, 0))) (h : BytesAt w p b) (hb : b.length ≤ 1000) (ty : TypeId) :
    ∃ v' w' A c', (Builtin.append_ #[39, 39] ty #[.slice (some ⟨K, 0, none⟩) 0 0, .slice p b.length c]).run Tryd.prog w = .ok v' w' ∧ v' = .slice A b.length c' ∧ BytesAt w' A b ∧ w.grownBy w' (some K) := by
  obtain ⟨i0, hi, hz0, hz1, hz2⟩ := info_parts Tryd.infoByte
  have hown : w.ownsRow K 5 1 (.slice (some ⟨K, 0, none⟩) 0 0) 0 [] := ⟨rfl, .inr ⟨K, 0, #[], rfl, Nat.le_refl _, hK, Nat.le_refl _, Nat.zero_le _, rfl, rfl⟩⟩
  have hKs := blk_lt hK
  cases p with
  | none =>
    obtain rfl : b = [] := by
      rcases h with h | ⟨_, h, _⟩
      · exact h
      · cases h
    refine ⟨.slice (some ⟨K, 0, none⟩) 0 0, w, some ⟨K, 0, none⟩, 0, ?_, rfl, .inl rfl, ⟨rfl, rfl, rfl, Nat.le_refl _, fun _ _ _ => rfl⟩⟩
    have hst := run_storeCells_at Tryd.prog K 0 5 [] 0 #[] w hK (Nat.le_refl _) (by simp)
    simp only [Nat.add_zero, List.take_nil, List.append_nil, List.drop_nil, List.length_nil] at hst
    have hse : w.setRow K [].toArray = w := setRow_self _ _ _ 5 (0, 0) hK
    rw [hse] at hst
    simp [Builtin.append_, run_underlying Tryd.underlying39, sizeOf, typeInfo, hi, Builtin.lenOf, Builtin.firstCells, Addr.add_lit, hst]
  | some a =>
    obtain ⟨v', w', hr, h2, h3, _⟩ := run_append_own (P := Tryd.prog) w K 39 ty 5 i0 (.int .u8 0) 1 1 Tryd.underlying39 hi hz0 hz1 hz2 rfl (by decide)
      (.slice (some ⟨K, 0, none⟩) 0 0) 0 [] hown a b.length c (bytesV b) (by rw [len_bytesV, Nat.mul_one]) (fun j u hj => by
        rcases h with h0 | ⟨ad, h0, h1⟩
        · subst h0
          simp [bytesV] at hj
        · injection h0 with h0
          subst h0
          exact h1 j u hj) (one_bytesV _) (by unfold maxLen; omega) (by omega) (by omega)
    rw [Nat.zero_add, List.nil_append] at h2
    obtain ⟨A, c', e1, e2⟩ := row_bytes h2
    exact ⟨v', w', A, c', hr, e1, e2, h3⟩

structure PlayInv (w0 W0 : World) (g bb : Nat) (fu : Value) (n : Nat) (s : St) (e : Nat) (x : ActV) (p : Option Addr) (cp : Nat) (L : Nat → Bool) (vs : Nat → Value) (w : World) : Prop where
  c2 : L 2 = true → L 1 = true
  c5 : L 5 = true → L 4 = true
  c6 : L 6 = true → L 3 = true ∧ L 5 = true
  c7 : L 7 = true → L 0 = true ∧ L 1 = true ∧ L 2 = true ∧ L 3 = true ∧ L 4 = true ∧ L 5 = true ∧ L 6 = true
  early : L 7 = false → W0.grownBy w none
  i0 : L 0 = true → vs 0 = .pointer (some ⟨g, 0, none⟩)
  i1 : L 1 = true → vs 1 = .pointer (some ⟨e, 1, none⟩)
  i2 : L 2 = true → vs 2 = .int .i64 x.n
  i3 : L 3 = true → L 6 = false → ∃ K, vs 3 = .slice (some ⟨K, 0, none⟩) 0 0 ∧ W0.heap.size ≤ K ∧ w.heap[K]? = some (.cells #[] 5 (0, 0))
  i4 : L 4 = true → vs 4 = .pointer (some ⟨e, 2, none⟩)
  i5 : L 5 = true → vs 5 = .slice p x.b.length cp
  i6 : L 6 = true → L 7 = false → ∃ A c, vs 6 = .slice A x.b.length c ∧ BytesAt w A x.b
  i7 : L 7 = true → vs 7 = errV (wrC n s x.n x.b) ∧ Mine w0.heap.size w0 w g bb fu n (wrS n s x.n x.b) ∧ Only (footD g bb fu) W0 w
  i8 : L 8 = true → vs 8 = .int .i64 (wrC n s x.n x.b)
  i9 : L 9 = true → vs 9 = .int .i64 (wrC n s x.n x.b)

section
variable {w0 W0 : World} {g bb : Nat} {fu : Value} {n : Nat} {s : St} {e : Nat} {x : ActV} {p : Option Addr} {cp : Nat} {L : Nat → Bool} {vs : Nat → Value} {w : World}
theorem PlayInv.no7 (h : PlayInv w0 W0 g bb fu n s e x p cp L vs w) (hn : ¬ (L 0 = true ∧ L 1 = true ∧ L 2 = true ∧ L 3 = true ∧ L 4 = true ∧ L 5 = true ∧ L 6 = true)) : L 7 = false := by
  cases hc : L 7 with
  | false => rfl
  | true => exact absurd (h.c7 hc) hn
theorem grown_below {W0 w : World} (h : W0.grownBy w none) : Below W0.heap.size W0 w := (Below.refl _ W0).grown h (Nat.le_refl _) (fun k hk => by cases hk)
theorem PlayInv.op0 (h : PlayInv w0 W0 g bb fu n s e x p cp L vs w) : PlayInv w0 W0 g bb fu n s e x p cp (fun j => L j || (j == 0)) (fun j => if j = 0 then .pointer (some ⟨g, 0, none⟩) else vs j) w :=
  ⟨by simpa using h.c2, by simpa using h.c5, by simpa using h.c6, by simpa using fun e => (h.c7 e).2, by simpa using h.early, by simp, by simpa using h.i1, by simpa using h.i2, by simpa using h.i3, by simpa using h.i4, by simpa using h.i5, by simpa using h.i6, by simpa using h.i7, by simpa using h.i8, by simpa using h.i9⟩
theorem PlayInv.op1 (h : PlayInv w0 W0 g bb fu n s e x p cp L vs w) : PlayInv w0 W0 g bb fu n s e x p cp (fun j => L j || (j == 1)) (fun j => if j = 1 then .pointer (some ⟨e, 1, none⟩) else vs j) w :=
  ⟨by simp, by simpa using h.c5, by simpa using h.c6, by simpa using fun e => ⟨(h.c7 e).1, (h.c7 e).2.2⟩, by simpa using h.early, by simpa using h.i0, by simp, by simpa using h.i2, by simpa using h.i3, by simpa using h.i4, by simpa using h.i5, by simpa using h.i6, by simpa using h.i7, by simpa using h.i8, by simpa using h.i9⟩
theorem PlayInv.op2 (h : PlayInv w0 W0 g bb fu n s e x p cp L vs w) (h1 : L 1 = true) : PlayInv w0 W0 g bb fu n s e x p cp (fun j => L j || (j == 2)) (fun j => if j = 2 then .int .i64 x.n else vs j) w :=
  ⟨by simp [h1], by simpa using h.c5, by simpa using h.c6, by simpa using fun e => ⟨(h.c7 e).1, (h.c7 e).2.1, (h.c7 e).2.2.2⟩, by simpa using h.early, by simpa using h.i0, by simpa using h.i1, by simp, by simpa using h.i3, by simpa using h.i4, by simpa using h.i5, by simpa using h.i6, by simpa using h.i7, by simpa using h.i8, by simpa using h.i9⟩
theorem PlayInv.op4 (h : PlayInv w0 W0 g bb fu n s e x p cp L vs w) : PlayInv w0 W0 g bb fu n s e x p cp (fun j => L j || (j == 4)) (fun j => if j = 4 then .pointer (some ⟨e, 2, none⟩) else vs j) w :=
  ⟨by simpa using h.c2, by simp, by simpa using h.c6, by simpa using fun e => ⟨(h.c7 e).1, (h.c7 e).2.1, (h.c7 e).2.2.1, (h.c7 e).2.2.2.1, (h.c7 e).2.2.2.2.2⟩, by simpa using h.early, by simpa using h.i0, by simpa using h.i1, by simpa using h.i2, by simpa using h.i3, by simp, by simpa using h.i5, by simpa using h.i6, by simpa using h.i7, by simpa using h.i8, by simpa using h.i9⟩
theorem PlayInv.op5 (h : PlayInv w0 W0 g bb fu n s e x p cp L vs w) (h4 : L 4 = true) : PlayInv w0 W0 g bb fu n s e x p cp (fun j => L j || (j == 5)) (fun j => if j = 5 then .slice p x.b.length cp else vs j) w :=
  ⟨by simpa using h.c2, by simp [h4], by simpa using fun e => (h.c6 e).1, by simpa using fun e => ⟨(h.c7 e).1, (h.c7 e).2.1, (h.c7 e).2.2.1, (h.c7 e).2.2.2.1, (h.c7 e).2.2.2.2.1, (h.c7 e).2.2.2.2.2.2⟩, by simpa using h.early, by simpa using h.i0, by simpa using h.i1, by simpa using h.i2, by simpa using h.i3, by simpa using h.i4, by simp, by simpa using h.i6, by simpa using h.i7, by simpa using h.i8, by simpa using h.i9⟩
theorem PlayInv.op3 (h : PlayInv w0 W0 g bb fu n s e x p cp L vs w) (h3 : L 3 = false) :
    PlayInv w0 W0 g bb fu n s e x p cp (fun j => L j || (j == 3)) (fun j => if j = 3 then .slice (some ⟨w.heap.size, 0, none⟩) 0 0 else vs j) (w.alloc (.cells #[] 5)) := by
  have h6 : L 6 = false := by cases hc : L 6 with | false => rfl | true => rw [(h.c6 hc).1] at h3; cases h3
  have h7 : L 7 = false := h.no7 (fun e => by rw [h6] at e; simp at e)
  have hg := h.early h7
  refine ⟨by simpa using h.c2, by simpa using h.c5, by simp [h6], by simp [h7], fun _ => grow_trans hg (grow_alloc w _ none) (fun q e => by cases e), by simpa using h.i0, by simpa using h.i1, by simpa using h.i2, ?_, by simpa using h.i4, by simpa using h.i5, by simp [h6], by simp [h7], by simpa using h.i8, by simpa using h.i9⟩
  intro _ _
  exact ⟨w.heap.size, rfl, hg.size, heap_alloc_new w _⟩
theorem PlayInv.op6 (h : PlayInv w0 W0 g bb fu n s e x p cp L vs w) (hB : BytesAt W0 p x.b) (hb : x.b.length ≤ 1000) (h6 : L 6 = false) (h3 : L 3 = true) (h5 : L 5 = true) (ty : TypeId) :
    ∃ v' w', (Builtin.append_ #[39, 39] ty #[vs 3, vs 5]).run Tryd.prog w = .ok v' w' ∧ PlayInv w0 W0 g bb fu n s e x p cp (fun j => L j || (j == 6)) (fun j => if j = 6 then v' else vs j) w' := by
  have h7 : L 7 = false := h.no7 (fun e => by rw [h6] at e; simp at e)
  have hg := h.early h7
  obtain ⟨K, f1, f2, f3⟩ := h.i3 h3 h6
  obtain ⟨v', w', A, c', hr, e1, e2, hgr⟩ := run_appB (c := cp) f3 (hB.below (grown_below hg)) hb ty
  refine ⟨v', w', by rw [f1, h.i5 h5]; exact hr, by simpa using h.c2, by simpa using h.c5, by simp [h3, h5], by simp [h7], fun _ => grow_trans hg hgr (fun q e hq => by injection e with e; omega), by simpa using h.i0, by simpa using h.i1, by simpa using h.i2, by simp, by simpa using h.i4, by simpa using h.i5, ?_, by simp [h7], by simpa using h.i8, by simpa using h.i9⟩
  intro _ _
  exact ⟨A, c', by simpa using e1, e2⟩
theorem PlayInv.op7 (h : PlayInv w0 W0 g bb fu n s e x p cp L vs w) (hm : Mine w0.heap.size w0 W0 g bb fu n s) (ho : StOk s) (hn : n ≤ 4096) (h7 : L 7 = false) (hd : L 0 = true ∧ L 1 = true ∧ L 2 = true ∧ L 3 = true ∧ L 4 = true ∧ L 5 = true ∧ L 6 = true) :
    Calls Tryd.prog 9 #[vs 0, vs 2, vs 6] w fun ev w' => ∃ v', ev = .returned v' ∧ PlayInv w0 W0 g bb fu n s e x p cp (fun j => L j || (j == 7)) (fun j => if j = 7 then v' else vs j) w' := by
  have hg := h.early h7
  obtain ⟨A, c, e1, e2⟩ := h.i6 hd.2.2.2.2.2.2 h7
  rw [h.i0 hd.1, h.i2 hd.2.2.1, e1]
  refine ((hm.later (grown_below hg)).write ho hn x.n A x.b c (fun _ => e2)).mono ?_
  rintro ev w' ⟨rfl, hm', hk⟩
  refine ⟨_, rfl, by simpa using h.c2, by simpa using h.c5, by simpa using h.c6, fun _ => by simpa using hd, by simp, by simpa using h.i0, by simpa using h.i1, by simpa using h.i2, by simp [hd.2.2.2.2.2.2], by simpa using h.i4, by simpa using h.i5, by simp, ?_, by simpa using h.i8, by simpa using h.i9⟩
  intro _
  exact ⟨rfl, hm', (Only.of_below (grown_below hg)).trans hk⟩
theorem PlayInv.op8 (h : PlayInv w0 W0 g bb fu n s e x p cp L vs w) (hG : ErrT w0) (h7 : L 7 = true) :
    Calls Tryd.prog 8 #[vs 7] w fun ev w' => ∃ v', ev = .returned v' ∧ PlayInv w0 W0 g bb fu n s e x p cp (fun j => L j || (j == 8)) (fun j => if j = 8 then v' else vs j) w' := by
  obtain ⟨e1, hm, hk⟩ := h.i7 h7
  have hd := h.c7 h7
  rw [e1]
  refine (code_err _ w (hG.below hm.below)).mono ?_
  rintro ev w' ⟨rfl, hb⟩
  refine ⟨_, rfl, by simpa using h.c2, by simpa using h.c5, by simpa using h.c6, fun _ => by simpa using hd, by simp [h7], by simpa using h.i0, by simpa using h.i1, by simpa using h.i2, by simp [hd.2.2.2.2.2.2], by simpa using h.i4, by simpa using h.i5, by simp [h7], ?_, by simp, by simpa using h.i9⟩
  intro _
  exact ⟨by simpa using e1, hm.later hb, hk.trans (Only.of_below hb)⟩
theorem PlayInv.op9 (h : PlayInv w0 W0 g bb fu n s e x p cp L vs w) (h8 : L 8 = true) : PlayInv w0 W0 g bb fu n s e x p cp (fun j => L j || (j == 9)) (fun j => if j = 9 then vs 8 else vs j) w :=
  ⟨by simpa using h.c2, by simpa using h.c5, by simpa using h.c6, by simpa using h.c7, by simpa using h.early, by simpa using h.i0, by simpa using h.i1, by simpa using h.i2, by simpa using h.i3, by simpa using h.i4, by simpa using h.i5, by simpa using h.i6, by simpa using h.i7, by simpa using h.i8, fun _ => by simpa using h.i8 h8⟩
end

section
variable {P : Program}
theorem run_enter {f : FuncId} {fn : Func} (hf : P.funcs[f]? = some fn) (hname : (fn.name == "runtime.NumGoroutine") = false) (hb : fn.body.isNone = false) (args : Array Value) (w : World) :
    (callFunc f args).run P w = .ok (.enter f args) w := by
  have h1 : fn.name ≠ "runtime.NumGoroutine" := by simpa using hname
  have h2 : fn.body ≠ none := by intro e; rw [e] at hb; cases hb
  simp [callFunc, hf, h1, h2]
theorem wp_call_run {o : Oper} {a : Act} {w : World} {K : Act → World → Prop} {Q : Exit → Act → World → Prop} (f : FuncId) (args : Array Value) (hrun : (execOp a.eval o).run P w = .ok (.enter f args) w) {R : Value → World → Prop}
    (hc : Calls P f args w fun ev w' => ∃ v, ev = .returned v ∧ R v w') (h : ∀ v w', R v w' → K (a.put o.dst v) w') : o.wp P a w K Q := by
  unfold Oper.wp
  rw [hrun, Oper.upon_enter]
  refine hc.mono fun ev w' hh => ?_
  obtain ⟨v, rfl, hR⟩ := hh
  exact h v w' hR
theorem wp_call_fn {o : Oper} {a : Act} {w : World} {K : Act → World → Prop} {Q : Exit → Act → World → Prop} (f : FuncId) {fn : Func} (xs : Array Operand) (ts : Array TypeId) (ho : o.op = .call { callee := .value (.func f), args := xs, argTypes := ts })
    (hf : P.funcs[f]? = some fn) (hname : (fn.name == "runtime.NumGoroutine") = false) (hb : fn.body.isNone = false)
    {R : Value → World → Prop} (hc : Calls P f (xs.map a.eval) w fun ev w' => ∃ v, ev = .returned v ∧ R v w') (h : ∀ v w', R v w' → K (a.put o.dst v) w') : o.wp P a w K Q := by
  refine wp_call_run f (xs.map a.eval) ?_ hc h
  unfold execOp
  simp [ho, resolve, Act.eval, Deferred.ofValue, invoke, run_enter hf hname hb]
theorem wp_val_run {o : Oper} {a : Act} {w : World} {K : Act → World → Prop} {Q : Exit → Act → World → Prop} (v : Value) (hrun : (execOp a.eval o).run P w = .ok (.value v) w) (h : K (a.put o.dst v) w) : o.wp P a w K Q := by
  unfold Oper.wp
  rw [hrun]
  exact h
end

end Go.Proofs.YtlbfjnmhnpioaaaDoor
