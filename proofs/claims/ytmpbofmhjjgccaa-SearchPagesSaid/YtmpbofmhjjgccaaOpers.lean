/-
  Single operations, and regions whose operations' values are known beforehand.
-/
import Derived.Test.YtmpbofmhjjgccaaRegionInv
import Derived.Test.YtmpbofmhjjgccaaCommon
import Derived.Below
import Derived.BigFrame
namespace Go.Proofs.Ytmpbofmhjjgccaa
open Go.RowKit
set_option maxRecDepth 100000
set_option linter.unusedVariables false
set_option linter.unusedSimpArgs false

section
variable {P : Program}
theorem run_enterI {f : FuncId} {fn : Func} (hf : P.funcs[f]? = some fn) (hname : (fn.name == "runtime.NumGoroutine") = false) (hb : fn.body.isNone = false) (args : Array Value) (w : World) :
    (callFunc f args).run P w = .ok (.enter f args) w := by
  have h1 : fn.name ≠ "runtime.NumGoroutine" := by simpa using hname
  have h2 : fn.body ≠ none := by intro e; rw [e] at hb; cases hb
  simp [callFunc, hf, h1, h2]
theorem wp_call_fnI {o : Oper} {a : Act} {w : World} {K : Act → World → Prop} {Q : Exit → Act → World → Prop} (f : FuncId) {fn : Func} (xs : Array Operand) (ts : Array TypeId) (ho : o.op = .call { callee := .value (.func f), args := xs, argTypes := ts })
    (hf : P.funcs[f]? = some fn) (hname : (fn.name == "runtime.NumGoroutine") = false) (hb : fn.body.isNone = false)
    {R : Value → World → Prop} (hc : Calls P f (xs.map a.eval) w fun ev w' => ∃ v, ev = .returned v ∧ R v w') (h : ∀ v w', R v w' → K (a.put o.dst v) w') : o.wp P a w K Q := by
  have hrun : (execOp a.eval o).run P w = .ok (.enter f (xs.map a.eval)) w := by
    unfold execOp
    simp [ho, resolve, Act.eval, Deferred.ofValue, invoke, run_enterI hf hname hb]
  unfold Oper.wp
  rw [hrun, Oper.upon_enter]
  refine hc.mono fun ev w' hh => ?_
  obtain ⟨v, rfl, hR⟩ := hh
  exact h v w' hR
theorem wp_ifaceI {o : Oper} {a : Act} {w : World} {K : Act → World → Prop} {Q : Exit → Act → World → Prop} (t : TypeId) (x : Operand) (v v' : Value) (ho : o.op = .makeInterface t x) (hx : a.eval x = v) (hr : (Instr.makeInterface t v).run P w = .ok v' w) (h : K (a.put o.dst v') w) : o.wp P a w K Q := by
  unfold Oper.wp execOp
  simp only [ho, hx, hr, Sem.run_bind, Result.andThen_ok]
  exact h
theorem wp_pickI {o : Oper} {a : Act} {w : World} {K : Act → World → Prop} {Q : Exit → Act → World → Prop} (c x y : Operand) (v : Value) (ho : o.op = .pick c x y) (hc : a.eval c = .bool true) (hx : a.eval x = v) (h : K (a.put o.dst v) w) : o.wp P a w K Q := by
  unfold Oper.wp execOp
  simp [ho, hc, hx, asBool]
  exact h
theorem wp_nilI {o : Oper} {a : Act} {w : World} {K : Act → World → Prop} {Q : Exit → Act → World → Prop} (x : Operand) (p : Addr) (ho : o.op = .nilCheck x) (hx : a.eval x = .pointer (some p)) (h : K (a.put o.dst (.pointer (some p))) w) : o.wp P a w K Q := by
  unfold Oper.wp execOp
  simp only [ho, hx, Sem.run_pure]
  exact h
theorem wp_fieldI {o : Oper} {a : Act} {w : World} {K : Act → World → Prop} {Q : Exit → Act → World → Prop} (s : TypeId) (x : Operand) (f : Nat) (v v' : Value) (ho : o.op = .fieldAddr s x f) (hx : a.eval x = v)
    (hr : (Instr.fieldAt s v f).run P w = .ok v' w) (h : K (a.put o.dst v') w) : o.wp P a w K Q := by
  unfold Oper.wp execOp
  simp only [ho, hx, hr, Sem.run_bind, Result.andThen_ok]
  exact h
theorem wp_loadI {o : Oper} {a : Act} {w : World} {K : Act → World → Prop} {Q : Exit → Act → World → Prop} (s : TypeId) (x : Operand) (p : Addr) (v' : Value) (ho : o.op = .load s x) (hx : a.eval x = .pointer (some p))
    (hr : (loadVar s p).run P w = .ok v' w) (h : K (a.put o.dst v') w) : o.wp P a w K Q := by
  unfold Oper.wp execOp
  simp only [ho, hx, Instr.loadAt, Instr.sureAddr, Sem.run_bind, Sem.run_pure, Result.andThen_ok, hr]
  exact h
theorem wp_binI {o : Oper} {a : Act} {w : World} {K : Act → World → Prop} {Q : Exit → Act → World → Prop} (op : BinOp) (t : TypeId) (x y : Operand) (ty : TypeId) (vx vy v : Value) (ho : o.op = .binOp op t x y ty) (hx : a.eval x = vx) (hy : a.eval y = vy)
    (hr : (do eqGuard op t x y vx vy; binOp op t vx vy).run P w = .ok v w) (h : K (a.put o.dst v) w) : o.wp P a w K Q := by
  unfold Oper.wp execOp
  simp only [ho, hx, hy]
  rw [Sem.run_bind, hr]
  exact h
end

/-- Each operation's value is known; the world only grows. -/
structure ValInv (w0 : World) (val : Nat → Value) (L : Nat → Bool) (vs : Nat → Value) (w : World) : Prop where
  vals : ∀ j, L j = true → vs j = val j
  below : Below w0.heap.size w0 w
theorem ValInv.start (w0 : World) (val : Nat → Value) (vs : Nat → Value) : ValInv w0 val (fun _ => false) vs w0.drew := ⟨fun j h => (by cases h), ⟨rfl, rfl, rfl, Nat.le_refl _, fun _ _ => rfl⟩⟩
theorem ValInv.step {w0 : World} {val : Nat → Value} {L : Nat → Bool} {vs : Nat → Value} {w w' : World} (h : ValInv w0 val L vs w) (i : Nat) (hb : Below w.heap.size w w') :
    ValInv w0 val (fun j => L j || (j == i)) (fun j => if j = i then val i else vs j) w' where
  vals := fun j hj => by
    by_cases e : j = i
    · subst e; rw [if_pos rfl]
    · rw [if_neg e]
      exact h.vals j (by simpa [e] using hj)
  below := h.below.trans (hb.mono h.below.size)

end Go.Proofs.Ytmpbofmhjjgccaa
