/-
  A slice literal of one struct.
-/
import Derived.Test.YtmpbofmhjjgccaaSeg
import Derived.Great.BuildSlice
namespace Go.Proofs.Ytmpbofmhjjgccaa
open Go.RowKit
set_option linter.unusedVariables false
section
variable {P : Program}
theorem fold_set : ∀ (cs : List Value) (k : Nat) (zs : Array Value), k + cs.length ≤ zs.size →
    (cs.zipIdx k).foldl (fun c x => c.setIfInBounds x.2 x.1) zs = (zs.toList.take k ++ cs ++ zs.toList.drop (k + cs.length)).toArray
  | [], k, zs, _ => by simp
  | c :: cs, k, zs, h => by
    rw [List.zipIdx_cons, List.foldl_cons, fold_set cs (k + 1) _ (by rw [Array.size_setIfInBounds]; simp at h; omega)]
    have hk : k < zs.toList.length := by simp at h ⊢; omega
    congr 1
    have e : zs.toList = zs.toList.take k ++ zs.toList[k] :: zs.toList.drop (k + 1) := by rw [← List.drop_eq_getElem_cons hk, List.take_append_drop]
    rw [Array.toList_setIfInBounds]
    rw [List.drop_set_of_lt (by simp; omega), List.take_add_one, List.getElem?_set_self hk, List.take_set_of_le (Nat.le_refl _)]
    simp [Nat.add_assoc, Nat.add_comm 1]
theorem fill_one (cs : List Value) (zs : Array Value) (h : zs.size = cs.length) : Instr.fill (fun i => some (i * cs.length, cs.length)) zs [(0, .agg cs.toArray)] = some cs.toArray := by
  have hf := fold_set cs 0 zs (by omega)
  have e : (List.take 0 zs.toList ++ cs ++ List.drop (0 + cs.length) zs.toList).toArray = cs.toArray := by
    rw [List.drop_eq_nil_of_le (by simp; omega)]; simp
  rw [e] at hf
  simp only [Instr.fill, Value.cells]
  simp [h]
  simpa using hf
/-- A slice literal of one struct. -/
theorem wpList_buildOne {ops : Array Oper} {rest : List Oper} {o : Oper} {a : Act} {w : World} {Q : Exit → Act → World → Prop} (hg : o.guard = none) (t e : TypeId) (x : Operand) (ho : o.op = .buildSlice t 1 #[(0, x)])
    (cs : List Value) (hx : a.eval x = .agg cs.toArray) (ie : TypeInfo) (z : Value)
    (hu : P.underlying t = some (.slice e)) (hie : P.info? e = some ie) (hz : ie.zero = some z) (hsz : ie.size = cs.length) (h0 : 0 < cs.length) (h1 : cs.length ≤ 1000)
    (h : wpList P ops Q rest (a.put o.dst (.slice (some ⟨w.heap.size, 0, none⟩) 1 1)) (w.alloc (.cells cs.toArray e))) : wpList P ops Q (o :: rest) a w := by
  refine wpList_buildSlice hg t e 1 _ ho cs.toArray ie z hu hie hz (by rw [hsz]; omega) (by rw [hsz]; omega) ?_ h
  have e1 : ((#[(0, x)] : Array (Nat × Operand)).map fun (i, x) => (i, a.eval x)).toList = [(0, .agg cs.toArray)] := by simp [hx]
  rw [e1, hsz]
  exact fill_one cs _ (by simp)
end
end Go.Proofs.Ytmpbofmhjjgccaa
