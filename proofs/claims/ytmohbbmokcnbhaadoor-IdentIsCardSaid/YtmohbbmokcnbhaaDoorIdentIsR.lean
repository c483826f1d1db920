/-
  IdentIs: its last statement draws its order and calls.
-/
import Derived.Test.YtmohbbmokcnbhaaDoorIdentIs0
import Derived.Test.YtmohbbmokcnbhaaDoorRegionInv
import Derived.Test.YtmohbbmokcnbhaaDoorTell
import Derived.BigFrame
namespace Go.Proofs.YtmohbbmokcnbhaaDoor
open Go.RowKit
set_option maxRecDepth 100000
set_option linter.unusedVariables false
set_option linter.unusedSimpArgs false

theorem as_hit_fault' (e : Addr) (b : Nat) (old : Value) (w : World) (hg : ErrT w) (hb : w.heap[b]? = some (.cells #[old] 39 (0, 0))) :
    Calls Tryd.prog 15 #[.iface 39 (.pointer (some e)), .iface 43 (.pointer (some ⟨b, 0, none⟩))] w fun ev w' => ev = .returned (.bool true) ∧ w'.heap[b]? = some (.cells #[.pointer (some e)] 39 (0, 0)) ∧ w.grownBy w' (some b) := by
  have hlt : b < w.heap.size := (Array.getElem?_eq_some_iff.1 hb).1
  refine (as_hit_fault e ⟨b, 0, none⟩ old w hg (by simp [World.cell?, hb]) (by simp [World.frozen?, hb])).mono ?_
  rintro ev w' ⟨rfl, rfl⟩
  refine ⟨rfl, ?_, ⟨rfl, rfl, rfl, by simp; omega, fun k hk hne => ?_⟩⟩
  · have h4 : ((((w.alloc (.cells #[.pointer (some ⟨b, 0, none⟩)] 43)).alloc (.cells #[.pointer (some ⟨2, 43, none⟩), .pointer (some ⟨w.heap.size, 0, none⟩), .int .u64 150] 64)).alloc (.cells #[.pointer (some ⟨2, 43, none⟩), .pointer (some ⟨w.heap.size, 0, none⟩), .int .u64 150] 64)).alloc (.cells #[.pointer (some e)] 39)).heap[b]? = some (.cells #[old] 39 (0, 0)) := by
      rw [heap_alloc_old _ _ (by simp; omega), heap_alloc_old _ _ (by simp; omega), heap_alloc_old _ _ (by simp; omega), heap_alloc_old _ _ hlt]
      exact hb
    have := heap_setCell_same _ b 0 #[old] 39 (.pointer (some e)) h4
    simpa using this
  · rw [heap_setCell_other _ _ _ _ (fun e => hne (by rw [e])), heap_alloc_old _ _ (by simp; omega), heap_alloc_old _ _ (by simp; omega), heap_alloc_old _ _ (by simp; omega), heap_alloc_old _ _ hk]

section
variable {P : Program}
theorem run_enterI {f : FuncId} {fn : Func} (hf : P.funcs[f]? = some fn) (hname : (fn.name == "runtime.NumGoroutine") = false) (hb : fn.body.isNone = false) (args : Array Value) (w : World) :
    (callFunc f args).run P w = .ok (.enter f args) w := by
  have h1 : fn.name ≠ "runtime.NumGoroutine" := by simpa using hname
  have h2 : fn.body ≠ none := by intro e; rw [e] at hb; cases hb
  simp [callFunc, hf, h1, h2]
theorem wp_call_fnI {o : Oper} {a : Act} {w : World} {K : Act → World → Prop} {Q : Exit → Act → World → Prop} (f : FuncId) {fn : Func} (xs : Array Operand) (ts : Array TypeId) (ho : o.op = .call { callee := .value (.func f), args := xs, argTypes := ts })
    (hf : P.funcs[f]? = some fn) (hname : (fn.name == "runtime.NumGoroutine") = false) (hb : fn.body.isNone = false)
    {R : Value → World → Prop} (hc : Calls P f (xs.map a.eval) w fun ev w' => ∃ v, ev = .returned v ∧ R v w') (h : ∀ v w', R v w' → K (a.put o.dst v) w') : o.wp P a w K Q := by
  have hrun : (execOp a.eval o).run P w = .ok (.enter f (xs.map a.eval)) w := by
    unfold execOp
    simp [ho, resolve, Act.eval, Deferred.ofValue, invoke, run_enterI hf hname hb]
  unfold Oper.wp
  rw [hrun, Oper.upon_enter]
  refine hc.mono fun ev w' hh => ?_
  obtain ⟨v, rfl, hR⟩ := hh
  exact h v w' hR
theorem wp_ifaceI {o : Oper} {a : Act} {w : World} {K : Act → World → Prop} {Q : Exit → Act → World → Prop} (t : TypeId) (x : Operand) (v v' : Value) (ho : o.op = .makeInterface t x) (hx : a.eval x = v) (hr : (Instr.makeInterface t v).run P w = .ok v' w) (h : K (a.put o.dst v') w) : o.wp P a w K Q := by
  unfold Oper.wp execOp
  simp only [ho, hx, hr, Sem.run_bind, Result.andThen_ok]
  exact h
theorem wp_pickI {o : Oper} {a : Act} {w : World} {K : Act → World → Prop} {Q : Exit → Act → World → Prop} (c x y : Operand) (v : Value) (ho : o.op = .pick c x y) (hc : a.eval c = .bool true) (hx : a.eval x = v) (h : K (a.put o.dst v) w) : o.wp P a w K Q := by
  unfold Oper.wp execOp
  simp [ho, hc, hx, asBool]
  exact h
theorem wp_nilI {o : Oper} {a : Act} {w : World} {K : Act → World → Prop} {Q : Exit → Act → World → Prop} (x : Operand) (p : Addr) (ho : o.op = .nilCheck x) (hx : a.eval x = .pointer (some p)) (h : K (a.put o.dst (.pointer (some p))) w) : o.wp P a w K Q := by
  unfold Oper.wp execOp
  simp only [ho, hx, Sem.run_pure]
  exact h
theorem wp_fieldI {o : Oper} {a : Act} {w : World} {K : Act → World → Prop} {Q : Exit → Act → World → Prop} (s : TypeId) (x : Operand) (f : Nat) (v v' : Value) (ho : o.op = .fieldAddr s x f) (hx : a.eval x = v)
    (hr : (Instr.fieldAt s v f).run P w = .ok v' w) (h : K (a.put o.dst v') w) : o.wp P a w K Q := by
  unfold Oper.wp execOp
  simp only [ho, hx, hr, Sem.run_bind, Result.andThen_ok]
  exact h
theorem wp_loadI {o : Oper} {a : Act} {w : World} {K : Act → World → Prop} {Q : Exit → Act → World → Prop} (s : TypeId) (x : Operand) (p : Addr) (v' : Value) (ho : o.op = .load s x) (hx : a.eval x = .pointer (some p))
    (hr : (loadVar s p).run P w = .ok v' w) (h : K (a.put o.dst v') w) : o.wp P a w K Q := by
  unfold Oper.wp execOp
  simp only [ho, hx, Instr.loadAt, Instr.sureAddr, Sem.run_bind, Sem.run_pure, Result.andThen_ok, hr]
  exact h
theorem wp_binI {o : Oper} {a : Act} {w : World} {K : Act → World → Prop} {Q : Exit → Act → World → Prop} (op : BinOp) (t : TypeId) (x y : Operand) (ty : TypeId) (vx vy v : Value) (ho : o.op = .binOp op t x y ty) (hx : a.eval x = vx) (hy : a.eval y = vy)
    (hr : (do eqGuard op t x y vx vy; binOp op t vx vy).run P w = .ok v w) (h : K (a.put o.dst v) w) : o.wp P a w K Q := by
  unfold Oper.wp execOp
  simp only [ho, hx, hy]
  rw [Sem.run_bind, hr]
  exact h
end

theorem load_oneF {w : World} {a : Addr} {v : Value} (hc : w.cell? a = some v) : (loadVar 39 a).run Tryd.prog w = .ok v w := by
  simp [loadVar, isAgg, run_underlying Tryd.underlying39, load, hc]
  have hr := run_load (P := Tryd.prog) (w := w) a .plain
  rw [hc] at hr
  exact hr
theorem load_oneI {w : World} {a : Addr} {v : Value} (hc : w.cell? a = some v) : (loadVar 3 a).run Tryd.prog w = .ok v w := by
  simp [loadVar, isAgg, run_underlying Tryd.underlying3, load, hc]
  have hr := run_load (P := Tryd.prog) (w := w) a .plain
  rw [hc] at hr
  exact hr
theorem load_oneS {w : World} {a : Addr} {v : Value} (hc : w.cell? a = some v) : (loadVar 9 a).run Tryd.prog w = .ok v w := by
  simp [loadVar, isAgg, run_underlying Tryd.underlying9, load, hc]
  have hr := run_load (P := Tryd.prog) (w := w) a .plain
  rw [hc] at hr
  exact hr
theorem mk_code7 (w : World) : (Instr.makeInterface 41 (.int .i64 7)).run Tryd.prog w = .ok (.iface 41 (.int .i64 7)) w := by kernel_rfl
theorem mk_ptr (f : Nat) (w : World) : (Instr.makeInterface 43 (.pointer (some ⟨f, 0, none⟩))).run Tryd.prog w = .ok (.iface 43 (.pointer (some ⟨f, 0, none⟩))) w := by kernel_rfl
theorem field_f0 (q : Nat) (w : World) : (Instr.fieldAt 45 (.pointer (some ⟨q, 0, none⟩)) 0).run Tryd.prog w = .ok (.pointer (some ⟨q, 0, none⟩)) w := by kernel_rfl
theorem field_f1 (q : Nat) (w : World) : (Instr.fieldAt 45 (.pointer (some ⟨q, 0, none⟩)) 1).run Tryd.prog w = .ok (.pointer (some ⟨q, 1, none⟩)) w := by kernel_rfl
theorem eql_00 (w : World) : (do eqGuard .eql 3 (.tmp 46) (.const (.int .i64 0)) (.int .i64 0) (.int .i64 0); binOp .eql 3 (.int .i64 0) (.int .i64 0)).run Tryd.prog w = .ok (.bool true) w := by kernel_rfl
theorem eql_ww (k : Int) (w : World) : (do eqGuard .eql 9 (.tmp 53) (.tmp 55) (.string (wordB k)) (.string (wordB k)); binOp .eql 9 (.string (wordB k)) (.string (wordB k))).run Tryd.prog w = .ok (.bool true) w := by
  unfold wordB
  split
  · kernel_rfl
  · split
    · kernel_rfl
    · split
      · kernel_rfl
      · split
        · kernel_rfl
        · split
          · kernel_rfl
          · kernel_rfl

/-- What each operation yields. -/
def valIs (q f : Nat) (k : Int) : Nat → Value
  | 0 => .iface 39 (.pointer (some ⟨q, 0, none⟩))
  | 1 => .iface 41 (.int .i64 7)
  | 4 => .iface 39 (.pointer (some ⟨q, 0, none⟩))
  | 5 => .iface 43 (.pointer (some ⟨f, 0, none⟩))
  | 9 => .pointer (some ⟨q, 0, none⟩)
  | 10 => .pointer (some ⟨q, 0, none⟩)
  | 11 => .pointer (some ⟨q, 0, none⟩)
  | 12 => .int .i64 0
  | 16 => .pointer (some ⟨q, 0, none⟩)
  | 17 => .pointer (some ⟨q, 0, none⟩)
  | 18 => .pointer (some ⟨q, 1, none⟩)
  | 19 => .string (wordB k)
  | 20 => .int .i64 k
  | 21 => .string (wordB k)
  | _ => .bool true

structure IsInv (W0 : World) (q f : Nat) (k : Int) (L : Nat → Bool) (vs : Nat → Value) (w : World) : Prop where
  vals : ∀ j, L j = true → vs j = valIs q f k j
  grown : W0.grownBy w (some f)
  cell : w.heap[f]? = some (.cells #[if L 6 then .pointer (some ⟨q, 0, none⟩) else .pointer none] 39 (0, 0))
  cl : ∀ j, (j = 7 ∨ j = 8 ∨ j = 14 ∨ j = 15) → L j = true → L 6 = true
section
variable {W0 : World} {q f : Nat} {k : Int} {L : Nat → Bool} {vs : Nat → Value} {w : World}
theorem IsInv.fault (h : IsInv W0 q f k L vs w) {i : Int} {wd : ByteArray} {why : Value} (hq : FaultAt W0 q i wd why) (hne : q ≠ f) : FaultAt w q i wd why :=
  (h.grown.block q (blk_lt hq) (fun e => hne (Option.some.inj e))).trans hq
theorem IsInv.errT (h : IsInv W0 q f k L vs w) (hG : ErrT W0) (hf : f ≠ 0) : ErrT w :=
  (World.cell?_of_block (a := ⟨0, 0, none⟩) (h.grown.block 0 hG.lt (fun e => hf (Option.some.inj e).symm))).trans hG
theorem IsInv.pure (h : IsInv W0 q f k L vs w) (i : Nat) (hi : i ≠ 6) (hc : (i = 7 ∨ i = 8 ∨ i = 14 ∨ i = 15) → L 6 = true) :
    IsInv W0 q f k (fun j => L j || (j == i)) (fun j => if j = i then valIs q f k i else vs j) w where
  vals := fun j hj => by
    by_cases e : j = i
    · subst e; rw [if_pos rfl]
    · rw [if_neg e]
      exact h.vals j (by simpa [e] using hj)
  grown := h.grown
  cell := by
    have := h.cell
    have e : (6 == i) = false := by simp; omega
    simp only [e, Bool.or_false]
    exact this
  cl := fun j hj hl => by
    have e6 : (6 == i) = false := by simp; omega
    simp only [e6, Bool.or_false]
    by_cases e : j = i
    · subst e; exact hc hj
    · exact h.cl j hj (by simpa [e] using hl)
theorem IsInv.hit (h : IsInv W0 q f k L vs w) {w' : World} (h6 : L 6 = false) (hc : w'.heap[f]? = some (.cells #[.pointer (some ⟨q, 0, none⟩)] 39 (0, 0))) (hg : w.grownBy w' (some f)) :
    IsInv W0 q f k (fun j => L j || (j == 6)) (fun j => if j = 6 then .bool true else vs j) w' where
  vals := fun j hj => by
    by_cases e : j = 6
    · subst e; rfl
    · rw [if_neg e]
      exact h.vals j (by simpa [e] using hj)
  grown := ⟨hg.os.trans h.grown.os, hg.tape.trans h.grown.tape, hg.output.trans h.grown.output, Nat.le_trans h.grown.size hg.size, fun p hp hne => (hg.block p (Nat.lt_of_lt_of_le hp h.grown.size) hne).trans (h.grown.block p hp hne)⟩
  cell := by simpa using hc
  cl := fun j hj hl => by simp
end

end Go.Proofs.YtmohbbmokcnbhaaDoor
