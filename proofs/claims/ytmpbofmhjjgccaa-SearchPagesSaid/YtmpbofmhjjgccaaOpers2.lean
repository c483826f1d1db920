/-
  More single operations: for regions that draw their order.
-/
import Derived.Test.YtmpbofmhjjgccaaOpers
import Derived.Test.YtmpbofmhjjgccaaSeg
import Derived.Test.YtmpbofmhjjgccaaRegionMono
namespace Go.Proofs.Ytmpbofmhjjgccaa
open Go.RowKit
set_option maxRecDepth 100000
set_option linter.unusedVariables false
set_option linter.unusedSimpArgs false
section
variable {P : Program} {o : Oper} {a : Act} {w : World} {K : Act → World → Prop} {Q : Exit → Act → World → Prop}
theorem load_one {t : TypeId} {d : TypeDesc} (hu : P.underlying t = some d) (hd : (match d with | .struct _ | .array _ _ => false | _ => true) = true) {ad : Addr} {v : Value} (hc : w.cell? ad = some v) : (loadVar t ad).run P w = .ok v w := by
  have hagg : (isAgg t).run P w = .ok false w := by
    unfold isAgg
    rw [Sem.run_bind, run_underlying hu w]
    cases d <;> simp_all
  have hr := run_load (P := P) (w := w) ad .plain
  rw [hc] at hr
  simp [loadVar, Sem.run_bind, hagg, load]
  exact hr
/-- A load of one cell. -/
theorem wp_load1 (t : TypeId) (x : Operand) (ad : Addr) (v : Value) (ho : o.op = .load t x) (hx : a.eval x = .pointer (some ad)) {d : TypeDesc} (hu : P.underlying t = some d) (hd : (match d with | .struct _ | .array _ _ => false | _ => true) = true)
    (hc : w.cell? ad = some v) (h : K (a.put o.dst v) w) : o.wp P a w K Q := wp_loadI t x ad v ho hx (load_one hu hd hc) h
/-- A value that is known. -/
theorem wp_runI (v : Value) {w' : World} (hrun : (execOp a.eval o).run P w = .ok (.value v) w') (h : K (a.put o.dst v) w') : o.wp P a w K Q := by
  unfold Oper.wp
  rw [hrun]
  exact h
theorem wp_skipI {w' : World} (hrun : (execOp a.eval o).run P w = .ok .skip w') (h : K (a.put o.dst undef) w') : o.wp P a w K Q := by
  unfold Oper.wp
  rw [hrun]
  exact h
/-- '[]T{}'. -/
theorem wp_build0 (t e : TypeId) (ho : o.op = .buildSlice t 0 #[]) (ht : P.underlying t = some (.slice e)) {i : TypeInfo} (hi : P.info? e = some i)
    (h : K (a.put o.dst (.slice (some ⟨w.heap.size, 0, none⟩) 0 0)) (w.alloc (.cells #[] e))) : o.wp P a w K Q := by
  have hr : (Instr.buildSlice t 0 #[]).run P w = .ok (.slice (some ⟨w.heap.size, 0, none⟩) 0 0) (w.alloc (.cells #[] e)) := by
    simp [Instr.buildSlice, run_underlying ht, sizeOf, typeInfo, hi, Instr.fill, newRow]
    have e0 : Array.map (fun _ : Nat => (default : Value)) (Array.range 0) = #[] := Array.eq_empty_of_size_eq_zero (by simp)
    rw [e0]
  unfold Oper.wp execOp
  simp only [ho, Sem.run_bind]
  simp only [List.map_toArray, List.map_nil, hr, Result.andThen_ok]
  exact h
theorem wp_appendI (x y : Operand) (t : TypeId) (ho : o.op = .call { callee := .builtin .append, args := #[x, y], argTypes := #[t, t] }) (vx vy v : Value) (hx : a.eval x = vx) (hy : a.eval y = vy) {w' : World}
    (hr : (Builtin.append_ #[t, t] o.type #[vx, vy]).run P w = .ok v w') (h : K (a.put o.dst v) w') : o.wp P a w K Q := by
  unfold Oper.wp execOp
  simp only [ho, resolve, invoke, builtin, Sem.run_bind, Sem.run_pure, Result.andThen_ok, List.map_toArray, List.map_cons, List.map_nil, hx, hy, hr]
  exact h
theorem wp_buildI (t : TypeId) (parts : Array (Nat × Operand)) (ho : o.op = .build t parts) (ps : List (Nat × Value)) (hev : parts.toList.map (fun x => (x.1, a.eval x.2)) = ps) (cells : Array Value) (hf : P.built t ps = some cells)
    (h : K (a.put o.dst (.agg cells)) w) : o.wp P a w K Q := by
  have e : (parts.map fun (i, x) => (i, a.eval x)).toList = ps := by rw [Array.toList_map]; exact hev
  refine wp_build t parts ho (by rw [e, hf]; rfl) ?_
  rw [e, hf]
  exact h
theorem wp_extractI (x : Operand) (n : Nat) (ho : o.op = .extract x n) (vs : Array Value) (v : Value) (hx : a.eval x = .tuple vs) (hv : vs[n]? = some v) (h : K (a.put o.dst v) w) : o.wp P a w K Q := by
  have hr : (Instr.extract (.tuple vs) n).run P w = .ok v w := by simp [Instr.extract, hv]
  unfold Oper.wp execOp
  simp only [ho, hx, Sem.run_bind, hr, Result.andThen_ok]
  exact h
theorem wp_allocI (t : TypeId) (ho : o.op = .alloc t) {i : TypeInfo} (hi : P.info? t = some i) {z : Value} (hz : i.zero = some z) (h : K (a.put o.dst (.pointer (some ⟨w.heap.size, 0, none⟩))) (w.alloc (.cells z.cells t))) : o.wp P a w K Q := by
  unfold Oper.wp execOp
  simp [ho, Instr.alloc, zeroValue, typeInfo, hi, hz, newVar, newRow]
  exact h
end
end Go.Proofs.Ytmpbofmhjjgccaa
