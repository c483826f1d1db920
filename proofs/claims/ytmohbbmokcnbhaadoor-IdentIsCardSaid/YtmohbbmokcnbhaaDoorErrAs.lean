/-
  errors.As at a code: into a *api.Code it is laid, into a **api.Fault it isn't.
-/
import Derived.Test.YtmohbbmokcnbhaaDoorErrIs
import Derived.Test.YtmohbbmokcnbhaaDoorCommon
namespace Go.Proofs.YtmohbbmokcnbhaaDoor
open Go.RowKit Go.Extern.Stop Go.Stop Go.Extern
set_option linter.unusedVariables false
set_option linter.unusedSimpArgs false

theorem rlm (z : Sem Value) (f : TypeId → Addr → Nat → Nat → Sem Value) (v : Value) :
    ReflectliteValue.method z f #[v] = (do match ← ReflectliteValue.parts v with | none => z | some (t, a, fl) => f t a fl (fl % 32)) := rfl
theorem rls (v x : Value) : ReflectliteValue.set #[v, x] = (do
    let (some (dst, a, fl), some (src, b, _)) := (← ReflectliteValue.parts v, ← ReflectliteValue.parts x)
      | unsupported (.noEntry "extern/(internal/reflectlite.Value).Set.zeroValue")
    if fl / ReflectliteValue.flagAddr % 2 == 0 then unsupported (.noEntry "extern/(internal/reflectlite.Value).Set.unaddressable")
    let val ← loadVar src b
    if ← Rtype.directlyAssignable dst src then storeVar dst a val
    else if ← Rtype.implements dst src then
      if (← Rtype.kind src) == 20 then
        match val with
        | .nilIface => unsupported (.noEntry "extern/reflectlite: a nil value of one interface type handed on as a value of another")
        | _ => storeVar dst a val
      else storeVar dst a (.iface src val)
    else panicString ("reflectlite.Set: value of type " ++ (← Rtype.spelt src) ++ " is not assignable to type " ++ (← Rtype.spelt dst))
    pure (.tuple #[])) := rfl
theorem method_kind (h : Value) (w : World) : (Go.method 228 77 (.agg #[h]) "Kind").run Tryd.prog w = .ok (67, h) w := by kernel_rfl
theorem method_elem (h : Value) (w : World) : (Go.method 228 77 (.agg #[h]) "Elem").run Tryd.prog w = .ok (79, .agg #[h]) w := by kernel_rfl
theorem method_implements (h : Value) (w : World) : (Go.method 228 77 (.agg #[h]) "Implements").run Tryd.prog w = .ok (80, .agg #[h]) w := by kernel_rfl
theorem method_assignable (h : Value) (w : World) : (Go.method 228 77 (.agg #[h]) "AssignableTo").run Tryd.prog w = .ok (77, .agg #[h]) w := by kernel_rfl
theorem noAs_code (v : Value) (w : World) : (Instr.typeAssert (.iface 41 v) 25 89 true).run Tryd.prog w = .ok (.tuple #[.nilIface, .bool false]) w := run_typeAssert_lacksB Tryd.underlying89 (by kernel_rfl) (by kernel_rfl) v _ w

/-- What the package keeps: the type of error. -/
def ErrT (w : World) : Prop := w.cell? ⟨0, 0, none⟩ = some (.iface 77 (.agg #[.pointer (some ⟨2, 25, none⟩)]))
theorem ErrT.lt {w : World} (h : ErrT w) : 0 < w.heap.size := World.block_lt_of_cell? w ⟨0, 0, none⟩ h
theorem ErrT.below {w w' : World} (h : ErrT w) (hb : Below w.heap.size w w') : ErrT w' := (hb.cell (p := ⟨0, 0, none⟩) h.lt).trans h

theorem as_nil (t : Value) (w : World) :
    Calls Tryd.prog 15 #[.nilIface, t] w fun e w' => e = .returned (.bool false) ∧ w = w' := by
  go_enter Tryd.func15, Tryd.ntmps15
  go_wp2_with fail
  go_ret
  exact ⟨rfl, rfl⟩

/-! ### The target's type code -/
theorem valueOf_code (t : Addr) (w : World) : (ReflectliteValue.unpack (.iface 55 (.pointer (some t)))).run Tryd.prog w
    = .ok (.agg #[.pointer (some ⟨2, 55, none⟩), .pointer (some ⟨w.heap.size, 0, none⟩), .int .u64 150]) (w.alloc (.cells #[.pointer (some t)] 55)) := by kernel_rfl
theorem type_code (a : Addr) (w : World) : (ReflectliteValue.methodAny (ReflectliteValue.valueError "reflectlite.Value.Type" 0) (fun t _ _ _ => ReflectliteType.toType t) #[.agg #[.pointer (some ⟨2, 55, none⟩), .pointer (some a), .int .u64 150]]).run Tryd.prog w
    = .ok (.iface 77 (.agg #[.pointer (some ⟨2, 55, none⟩)])) w := by kernel_rfl
theorem kind_code (w : World) : ((ReflectliteType.abiMethod fun t => (fun a : Nat => Value.int IntKind.u8 (a : Int)) <$> Rtype.kind t) #[.pointer (some ⟨2, 55, none⟩)]).run Tryd.prog w = .ok (.int .u8 22) w := by kernel_rfl
theorem kindE_code (w : World) : ((ReflectliteType.abiMethod fun t => (fun a : Nat => Value.int IntKind.u8 (a : Int)) <$> Rtype.kind t) #[.pointer (some ⟨2, 41, none⟩)]).run Tryd.prog w = .ok (.int .u8 2) w := by kernel_rfl
theorem parts_code (a : Addr) (w : World) : (ReflectliteValue.parts (.agg #[.pointer (some ⟨2, 55, none⟩), .pointer (some a), .int .u64 150])).run Tryd.prog w = .ok (some (55, a, 150)) w := by kernel_rfl
theorem isNil_code (a p : Addr) (W : World) (ha : W.cell? a = some (.pointer (some p))) :
    (ReflectliteValue.method (ReflectliteValue.valueError "reflectlite.Value.IsNil" 0) ReflectliteValue.isNil #[.agg #[.pointer (some ⟨2, 55, none⟩), .pointer (some a), .int .u64 150]]).run Tryd.prog W = .ok (.bool false) W := by
  rw [rlm]
  simp only [Sem.run_bind, parts_code, Result.andThen]
  simp [ReflectliteValue.isNil, loadVar, isAgg, underlying, Tryd.underlying55, ha, Result.andThen]
theorem elem_code (w : World) : (ReflectliteType.method ReflectliteType.elem #[.agg #[.pointer (some ⟨2, 55, none⟩)]]).run Tryd.prog w = .ok (.iface 77 (.agg #[.pointer (some ⟨2, 41, none⟩)])) w := by kernel_rfl
theorem implements_code (w : World) : (ReflectliteType.relation "Implements" ReflectliteType.implements_ #[.agg #[.pointer (some ⟨2, 41, none⟩)], .iface 77 (.agg #[.pointer (some ⟨2, 25, none⟩)])]).run Tryd.prog w = .ok (.bool true) w := by kernel_rfl
theorem elemOf_code (w : World) : (Rtype.elem? 55).run Tryd.prog w = .ok (some 41) w := by kernel_rfl
theorem mk_code (p : Addr) (w : World) : (ReflectliteValue.mk 41 p ReflectliteValue.flagAddr).run Tryd.prog w = .ok (.agg #[.pointer (some ⟨2, 41, none⟩), .pointer (some p), .int .u64 386]) w := by kernel_rfl
theorem elemV_code (a p : Addr) (W : World) (ha : W.cell? a = some (.pointer (some p))) :
    (ReflectliteValue.method (ReflectliteValue.valueError "reflectlite.Value.Elem" 0) ReflectliteValue.elem #[.agg #[.pointer (some ⟨2, 55, none⟩), .pointer (some a), .int .u64 150]]).run Tryd.prog W
      = .ok (.agg #[.pointer (some ⟨2, 41, none⟩), .pointer (some p), .int .u64 386]) W := by
  rw [rlm]
  simp only [Sem.run_bind, parts_code, Result.andThen]
  simp [ReflectliteValue.elem, loadVar, isAgg, underlying, Tryd.underlying55, ha, Result.andThen, elemOf_code, mk_code]

theorem typeOfE_code (v : Value) (w : World) : (ReflectliteType.typeOf #[.iface 41 v]).run Tryd.prog w = .ok (.iface 77 (.agg #[.pointer (some ⟨2, 41, none⟩)])) w := by kernel_rfl
theorem assign_code (w : World) : (ReflectliteType.relation "AssignableTo" ReflectliteType.assignableTo #[.agg #[.pointer (some ⟨2, 41, none⟩)], .iface 77 (.agg #[.pointer (some ⟨2, 41, none⟩)])]).run Tryd.prog w = .ok (.bool true) w := by kernel_rfl
theorem valueOfE_code (c : Int) (w : World) : (ReflectliteValue.unpack (.iface 41 (.int .i64 c))).run Tryd.prog w
    = .ok (.agg #[.pointer (some ⟨2, 41, none⟩), .pointer (some ⟨w.heap.size, 0, none⟩), .int .u64 130]) (w.alloc (.cells #[.int .i64 c] 41)) := by kernel_rfl
theorem partsA_code (a : Addr) (w : World) : (ReflectliteValue.parts (.agg #[.pointer (some ⟨2, 41, none⟩), .pointer (some a), .int .u64 386])).run Tryd.prog w = .ok (some (41, a, 386)) w := by kernel_rfl
theorem partsE_code (a : Addr) (w : World) : (ReflectliteValue.parts (.agg #[.pointer (some ⟨2, 41, none⟩), .pointer (some a), .int .u64 130])).run Tryd.prog w = .ok (some (41, a, 130)) w := by kernel_rfl
theorem direct_code (w : World) : (Rtype.directlyAssignable 41 41).run Tryd.prog w = .ok true w := by kernel_rfl
theorem set_code (ta b : Addr) (c : Int) (old : Value) (W : World) (hb : W.cell? b = some (.int .i64 c)) (ht : W.cell? ta = some old) (hf : W.frozen? ta = false) :
    (ReflectliteValue.set #[.agg #[.pointer (some ⟨2, 41, none⟩), .pointer (some ta), .int .u64 386], .agg #[.pointer (some ⟨2, 41, none⟩), .pointer (some b), .int .u64 130]]).run Tryd.prog W
      = .ok (.tuple #[]) (W.setCell ta (.int .i64 c)) := by
  rw [rls]
  simp only [Sem.run_bind, partsA_code, partsE_code, Result.andThen]
  simp [ReflectliteValue.flagAddr, loadVar, isAgg, underlying, Tryd.underlying41, hb, Result.andThen, direct_code, storeVar, Value.cells, storeCells, Addr.add]
  rw [run_store Tryd.prog W ta _ _ (by rfl)]
  simp [ht, hf]

set_option maxRecDepth 100000 in
set_option maxHeartbeats 4000000 in
theorem as_hit_code (c : Int) (t : Addr) (old : Value) (w : World) (hg : ErrT w) (ht0 : w.cell? t = some old) (hf0 : w.frozen? t = false) :
    Calls Tryd.prog 15 #[.iface 41 (.int .i64 c), .iface 55 (.pointer (some t))] w fun ev w' => ev = .returned (.bool true) ∧ w' = ((((w.alloc (.cells #[.pointer (some t)] 55)).alloc (.cells #[.pointer (some ⟨2, 55, none⟩), .pointer (some ⟨w.heap.size, 0, none⟩), .int .u64 150] 64)).alloc (.cells #[.pointer (some ⟨2, 55, none⟩), .pointer (some ⟨w.heap.size, 0, none⟩), .int .u64 150] 64)).alloc (.cells #[.int .i64 c] 41)).setCell t (.int .i64 c) := by
  have hVO := @run_callFunc_extern Tryd.prog 31 _ (fun args => ReflectliteValue.unpack (args.getD 0 (.tuple #[]))) Tryd.func31 (by kernel_rfl) (by kernel_rfl) (by kernel_rfl) (by kernel_rfl)
  have hVT := @run_callFunc_extern Tryd.prog 32 _ (ReflectliteValue.methodAny (ReflectliteValue.valueError "reflectlite.Value.Type" 0) (fun t _ _ _ => ReflectliteType.toType t)) Tryd.func32 (by kernel_rfl) (by kernel_rfl) (by kernel_rfl) (by kernel_rfl)
  have hVN := @run_callFunc_extern Tryd.prog 33 _ (ReflectliteValue.method (ReflectliteValue.valueError "reflectlite.Value.IsNil" 0) ReflectliteValue.isNil) Tryd.func33 (by kernel_rfl) (by kernel_rfl) (by kernel_rfl) (by kernel_rfl)
  have hK := @run_callFunc_extern Tryd.prog 67 _ (ReflectliteType.abiMethod fun t => do pure (.int .u8 (← Rtype.kind t))) Tryd.func67 (by kernel_rfl) (by kernel_rfl) (by kernel_rfl) (by kernel_rfl)
  have hE := @run_callFunc_extern Tryd.prog 79 _ (ReflectliteType.method ReflectliteType.elem) Tryd.func79 (by kernel_rfl) (by kernel_rfl) (by kernel_rfl) (by kernel_rfl)
  have hI := @run_callFunc_extern Tryd.prog 80 _ (ReflectliteType.relation "Implements" ReflectliteType.implements_) Tryd.func80 (by kernel_rfl) (by kernel_rfl) (by kernel_rfl) (by kernel_rfl)
  have hT := @run_callFunc_extern Tryd.prog 29 _ ReflectliteType.typeOf Tryd.func29 (by kernel_rfl) (by kernel_rfl) (by kernel_rfl) (by kernel_rfl)
  have hA := @run_callFunc_extern Tryd.prog 77 _ (ReflectliteType.relation "AssignableTo" ReflectliteType.assignableTo) Tryd.func77 (by kernel_rfl) (by kernel_rfl) (by kernel_rfl) (by kernel_rfl)
  have hVE := @run_callFunc_extern Tryd.prog 42 _ (ReflectliteValue.method (ReflectliteValue.valueError "reflectlite.Value.Elem" 0) ReflectliteValue.elem) Tryd.func42 (by kernel_rfl) (by kernel_rfl) (by kernel_rfl) (by kernel_rfl)
  have hVS := @run_callFunc_extern Tryd.prog 43 _ ReflectliteValue.set Tryd.func43 (by kernel_rfl) (by kernel_rfl) (by kernel_rfl) (by kernel_rfl)
  have mK := method_kind
  have mE := method_elem
  have mI := method_implements
  have mA := method_assignable
  have tO := typeOfE_code
  have aE := assign_code
  have vE := valueOfE_code
  have vP := valueOf_code
  have tP := type_code
  have kP := kind_code
  have kE := kindE_code
  have eP := elem_code
  have iE := implements_code
  have hlt := hg.lt
  have n8 := isNil_code ⟨w.heap.size, 0, none⟩ t ((w.alloc (.cells #[.pointer (some t)] 55)).alloc (.cells #[.pointer (some ⟨2, 55, none⟩), .pointer (some ⟨w.heap.size, 0, none⟩), .int .u64 150] 64)) (by simp)
  have hg2 : ((w.alloc (.cells #[.pointer (some t)] 55)).alloc (.cells #[.pointer (some ⟨2, 55, none⟩), .pointer (some ⟨w.heap.size, 0, none⟩), .int .u64 150] 64)).cell? ⟨0, 0, none⟩ = some (.iface 77 (.agg #[.pointer (some ⟨2, 25, none⟩)])) := by
    rw [World.cell?_alloc_lt _ _ ⟨0, 0, none⟩ (by simp), World.cell?_alloc_lt _ _ ⟨0, 0, none⟩ hlt]; exact hg
  have htl : t.block < w.heap.size := World.block_lt_of_cell? w t ht0
  have el := elemV_code ⟨w.heap.size, 0, none⟩ t (((w.alloc (.cells #[.pointer (some t)] 55)).alloc (.cells #[.pointer (some ⟨2, 55, none⟩), .pointer (some ⟨w.heap.size, 0, none⟩), .int .u64 150] 64)).alloc (.cells #[.pointer (some ⟨2, 55, none⟩), .pointer (some ⟨w.heap.size, 0, none⟩), .int .u64 150] 64)) (by rw [World.cell?_alloc_lt _ _ ⟨w.heap.size, 0, none⟩ (by simp; omega)]; simp)
  have st := set_code t ⟨w.heap.size + 1 + 1 + 1, 0, none⟩ c old ((((w.alloc (.cells #[.pointer (some t)] 55)).alloc (.cells #[.pointer (some ⟨2, 55, none⟩), .pointer (some ⟨w.heap.size, 0, none⟩), .int .u64 150] 64)).alloc (.cells #[.pointer (some ⟨2, 55, none⟩), .pointer (some ⟨w.heap.size, 0, none⟩), .int .u64 150] 64)).alloc (.cells #[.int .i64 c] 41))
    (by rw [World.cell?_alloc_at _ _ _ _ (by simp)]; rfl)
    (by rw [World.cell?_alloc_lt _ _ t (by simp; omega), World.cell?_alloc_lt _ _ t (by simp; omega), World.cell?_alloc_lt _ _ t (by simp; omega), World.cell?_alloc_lt _ _ t htl]; exact ht0)
    (by rw [World.frozen?_alloc_old _ _ t (by simp; omega), World.frozen?_alloc_old _ _ t (by simp; omega), World.frozen?_alloc_old _ _ t (by simp; omega), World.frozen?_alloc_old _ _ t (Nat.ne_of_lt htl)]; exact hf0)
  have HG := Lib.hid hg
  clear hg
  go_enter Tryd.func15, Tryd.ntmps15
  go_wp2
  refine wp_loop_rounds 1 ?_
  rw [rounds_succ]
  go_wp2
  go_ret
  exact ⟨rfl, rfl⟩

/-! ### The target's type fault -/
theorem valueOf_fault (t : Addr) (w : World) : (ReflectliteValue.unpack (.iface 43 (.pointer (some t)))).run Tryd.prog w
    = .ok (.agg #[.pointer (some ⟨2, 43, none⟩), .pointer (some ⟨w.heap.size, 0, none⟩), .int .u64 150]) (w.alloc (.cells #[.pointer (some t)] 43)) := by kernel_rfl
theorem type_fault (a : Addr) (w : World) : (ReflectliteValue.methodAny (ReflectliteValue.valueError "reflectlite.Value.Type" 0) (fun t _ _ _ => ReflectliteType.toType t) #[.agg #[.pointer (some ⟨2, 43, none⟩), .pointer (some a), .int .u64 150]]).run Tryd.prog w
    = .ok (.iface 77 (.agg #[.pointer (some ⟨2, 43, none⟩)])) w := by kernel_rfl
theorem kind_fault (w : World) : ((ReflectliteType.abiMethod fun t => (fun a : Nat => Value.int IntKind.u8 (a : Int)) <$> Rtype.kind t) #[.pointer (some ⟨2, 43, none⟩)]).run Tryd.prog w = .ok (.int .u8 22) w := by kernel_rfl
theorem kindE_fault (w : World) : ((ReflectliteType.abiMethod fun t => (fun a : Nat => Value.int IntKind.u8 (a : Int)) <$> Rtype.kind t) #[.pointer (some ⟨2, 39, none⟩)]).run Tryd.prog w = .ok (.int .u8 22) w := by kernel_rfl
theorem parts_fault (a : Addr) (w : World) : (ReflectliteValue.parts (.agg #[.pointer (some ⟨2, 43, none⟩), .pointer (some a), .int .u64 150])).run Tryd.prog w = .ok (some (43, a, 150)) w := by kernel_rfl
theorem isNil_fault (a p : Addr) (W : World) (ha : W.cell? a = some (.pointer (some p))) :
    (ReflectliteValue.method (ReflectliteValue.valueError "reflectlite.Value.IsNil" 0) ReflectliteValue.isNil #[.agg #[.pointer (some ⟨2, 43, none⟩), .pointer (some a), .int .u64 150]]).run Tryd.prog W = .ok (.bool false) W := by
  rw [rlm]
  simp only [Sem.run_bind, parts_fault, Result.andThen]
  simp [ReflectliteValue.isNil, loadVar, isAgg, underlying, Tryd.underlying43, ha, Result.andThen]
theorem elem_fault (w : World) : (ReflectliteType.method ReflectliteType.elem #[.agg #[.pointer (some ⟨2, 43, none⟩)]]).run Tryd.prog w = .ok (.iface 77 (.agg #[.pointer (some ⟨2, 39, none⟩)])) w := by kernel_rfl
theorem implements_fault (w : World) : (ReflectliteType.relation "Implements" ReflectliteType.implements_ #[.agg #[.pointer (some ⟨2, 39, none⟩)], .iface 77 (.agg #[.pointer (some ⟨2, 25, none⟩)])]).run Tryd.prog w = .ok (.bool true) w := by kernel_rfl
theorem elemOf_fault (w : World) : (Rtype.elem? 43).run Tryd.prog w = .ok (some 39) w := by kernel_rfl
theorem mk_fault (p : Addr) (w : World) : (ReflectliteValue.mk 39 p ReflectliteValue.flagAddr).run Tryd.prog w = .ok (.agg #[.pointer (some ⟨2, 39, none⟩), .pointer (some p), .int .u64 406]) w := by kernel_rfl
theorem elemV_fault (a p : Addr) (W : World) (ha : W.cell? a = some (.pointer (some p))) :
    (ReflectliteValue.method (ReflectliteValue.valueError "reflectlite.Value.Elem" 0) ReflectliteValue.elem #[.agg #[.pointer (some ⟨2, 43, none⟩), .pointer (some a), .int .u64 150]]).run Tryd.prog W
      = .ok (.agg #[.pointer (some ⟨2, 39, none⟩), .pointer (some p), .int .u64 406]) W := by
  rw [rlm]
  simp only [Sem.run_bind, parts_fault, Result.andThen]
  simp [ReflectliteValue.elem, loadVar, isAgg, underlying, Tryd.underlying43, ha, Result.andThen, elemOf_fault, mk_fault]

theorem noAssign_fault (w : World) : (ReflectliteType.relation "AssignableTo" ReflectliteType.assignableTo #[.agg #[.pointer (some ⟨2, 41, none⟩)], .iface 77 (.agg #[.pointer (some ⟨2, 39, none⟩)])]).run Tryd.prog w = .ok (.bool false) w := by kernel_rfl
set_option maxRecDepth 100000 in
set_option maxHeartbeats 4000000 in
theorem as_miss_fault (c : Int) (t : Addr) (old : Value) (w : World) (hg : ErrT w) (ht0 : w.cell? t = some old) :
    Calls Tryd.prog 15 #[.iface 41 (.int .i64 c), .iface 43 (.pointer (some t))] w fun ev w' => ev = .returned (.bool false) ∧ w' = (((w.alloc (.cells #[.pointer (some t)] 43)).alloc (.cells #[.pointer (some ⟨2, 43, none⟩), .pointer (some ⟨w.heap.size, 0, none⟩), .int .u64 150] 64)).alloc (.cells #[.pointer (some ⟨2, 43, none⟩), .pointer (some ⟨w.heap.size, 0, none⟩), .int .u64 150] 64)) := by
  have hVO := @run_callFunc_extern Tryd.prog 31 _ (fun args => ReflectliteValue.unpack (args.getD 0 (.tuple #[]))) Tryd.func31 (by kernel_rfl) (by kernel_rfl) (by kernel_rfl) (by kernel_rfl)
  have hVT := @run_callFunc_extern Tryd.prog 32 _ (ReflectliteValue.methodAny (ReflectliteValue.valueError "reflectlite.Value.Type" 0) (fun t _ _ _ => ReflectliteType.toType t)) Tryd.func32 (by kernel_rfl) (by kernel_rfl) (by kernel_rfl) (by kernel_rfl)
  have hVN := @run_callFunc_extern Tryd.prog 33 _ (ReflectliteValue.method (ReflectliteValue.valueError "reflectlite.Value.IsNil" 0) ReflectliteValue.isNil) Tryd.func33 (by kernel_rfl) (by kernel_rfl) (by kernel_rfl) (by kernel_rfl)
  have hK := @run_callFunc_extern Tryd.prog 67 _ (ReflectliteType.abiMethod fun t => do pure (.int .u8 (← Rtype.kind t))) Tryd.func67 (by kernel_rfl) (by kernel_rfl) (by kernel_rfl) (by kernel_rfl)
  have hE := @run_callFunc_extern Tryd.prog 79 _ (ReflectliteType.method ReflectliteType.elem) Tryd.func79 (by kernel_rfl) (by kernel_rfl) (by kernel_rfl) (by kernel_rfl)
  have hI := @run_callFunc_extern Tryd.prog 80 _ (ReflectliteType.relation "Implements" ReflectliteType.implements_) Tryd.func80 (by kernel_rfl) (by kernel_rfl) (by kernel_rfl) (by kernel_rfl)
  have hT := @run_callFunc_extern Tryd.prog 29 _ ReflectliteType.typeOf Tryd.func29 (by kernel_rfl) (by kernel_rfl) (by kernel_rfl) (by kernel_rfl)
  have hA := @run_callFunc_extern Tryd.prog 77 _ (ReflectliteType.relation "AssignableTo" ReflectliteType.assignableTo) Tryd.func77 (by kernel_rfl) (by kernel_rfl) (by kernel_rfl) (by kernel_rfl)
  have hVE := @run_callFunc_extern Tryd.prog 42 _ (ReflectliteValue.method (ReflectliteValue.valueError "reflectlite.Value.Elem" 0) ReflectliteValue.elem) Tryd.func42 (by kernel_rfl) (by kernel_rfl) (by kernel_rfl) (by kernel_rfl)
  have hVS := @run_callFunc_extern Tryd.prog 43 _ ReflectliteValue.set Tryd.func43 (by kernel_rfl) (by kernel_rfl) (by kernel_rfl) (by kernel_rfl)
  have mK := method_kind
  have mE := method_elem
  have mI := method_implements
  have mA := method_assignable
  have tO := typeOf_code
  have aE := noAssign_fault
  have vP := valueOf_fault
  have tP := type_fault
  have kP := kind_fault
  have kE := kindE_fault
  have eP := elem_fault
  have iE := implements_fault
  have h1 := noAs_code (.int .i64 c)
  have h2 := noUnwrap_code (.int .i64 c)
  have h3 := noUnwraps_code (.int .i64 c)
  have hlt := hg.lt
  have n8 := isNil_fault ⟨w.heap.size, 0, none⟩ t ((w.alloc (.cells #[.pointer (some t)] 43)).alloc (.cells #[.pointer (some ⟨2, 43, none⟩), .pointer (some ⟨w.heap.size, 0, none⟩), .int .u64 150] 64)) (by simp)
  have hg2 : ((w.alloc (.cells #[.pointer (some t)] 43)).alloc (.cells #[.pointer (some ⟨2, 43, none⟩), .pointer (some ⟨w.heap.size, 0, none⟩), .int .u64 150] 64)).cell? ⟨0, 0, none⟩ = some (.iface 77 (.agg #[.pointer (some ⟨2, 25, none⟩)])) := by
    rw [World.cell?_alloc_lt _ _ ⟨0, 0, none⟩ (by simp), World.cell?_alloc_lt _ _ ⟨0, 0, none⟩ hlt]; exact hg
  have HG := Lib.hid hg
  clear hg
  go_enter Tryd.func15, Tryd.ntmps15
  go_wp2
  refine wp_loop_rounds 1 ?_
  rw [rounds_succ]
  go_wp2
  go_ret
  exact ⟨rfl, rfl⟩

end Go.Proofs.YtmohbbmokcnbhaaDoor
