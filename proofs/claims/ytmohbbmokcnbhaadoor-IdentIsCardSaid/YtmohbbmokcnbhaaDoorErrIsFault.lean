/-
  errors.Is at a fault: it tells whether what it is about is the code.
-/
import Derived.Test.YtmohbbmokcnbhaaDoorErrIs
import Derived.Test.YtmohbbmokcnbhaaDoorBlk
namespace Go.Proofs.YtmohbbmokcnbhaaDoor
open Go.RowKit Go.Extern.Stop Go.Stop Go.Extern
set_option maxRecDepth 100000
set_option linter.unusedVariables false
set_option linter.unusedSimpArgs false

/-- A fault in memory. -/
def FaultAt (w : World) (e : Nat) (i : Int) (field : ByteArray) (why : Value) : Prop := w.heap[e]? = some (.cells #[.int .i64 i, .string field, why] 45 (0, 0))

theorem fault_eql (p : Option Addr) (b : Int) (w : World) : (binOp .eql 25 (.iface 39 (.pointer p)) (.iface 41 (.int .i64 b))).run Tryd.prog w = .ok (.bool false) w := by kernel_rfl
theorem noIs_fault (v : Value) (w : World) : (Instr.typeAssert (.iface 39 v) 25 79 true).run Tryd.prog w = .ok (.tuple #[.nilIface, .bool false]) w := run_typeAssert_lacksB Tryd.underlying79 (by kernel_rfl) (by kernel_rfl) v _ w
theorem hasUnwrap_fault (p : Option Addr) (w : World) : (Instr.typeAssert (.iface 39 (.pointer p)) 25 82 true).run Tryd.prog w = .ok (.tuple #[.iface 39 (.pointer p), .bool true]) w := by kernel_rfl
theorem method_unwrap (p : Value) (w : World) : (Go.method 228 39 p "Unwrap").run Tryd.prog w = .ok (71, p) w := by kernel_rfl

set_option maxHeartbeats 4000000 in
theorem unwrap_any (e : Nat) (i : Int) (field : ByteArray) (why : Value) (w : World) (h : FaultAt w e i field why) :
    Calls Tryd.prog 71 #[.pointer (some ⟨e, 0, none⟩)] w fun ev w' => ev = .returned why ∧ w = w' := by
  have c2 : w.cell? ⟨e, 2, none⟩ = some why := by rw [blk_cell h]; rfl
  clear h
  go_enter Tryd.func71, Tryd.ntmps71
  go_wp2
  go_ret
  exact ⟨rfl, rfl⟩

set_option maxHeartbeats 4000000 in
theorem is_fault (e : Nat) (i : Int) (field : ByteArray) (b : Int) (w : World) (h : FaultAt w e i field (.iface 41 (.int .i64 b))) :
    Calls Tryd.prog 30 #[.iface 39 (.pointer (some ⟨e, 0, none⟩)), .iface 41 (.int .i64 b), .bool true] w fun ev w' => ev = .returned (.bool true) ∧ w = w' := by
  have he := fault_eql (some ⟨e, 0, none⟩) b
  have hc : ∀ w : World, (binOp .eql 25 (.iface 41 (.int .i64 b)) (.iface 41 (.int .i64 b))).run Tryd.prog w = .ok (.bool true) w := fun w => by have := code_eql b b w; simpa using this
  have h1 := noIs_fault (.pointer (some ⟨e, 0, none⟩))
  have h2 := hasUnwrap_fault (some ⟨e, 0, none⟩)
  have mU := method_unwrap (.pointer (some ⟨e, 0, none⟩))
  have hu := unwrap_any e i field _ w h
  have HF := Lib.hid h
  clear h
  go_enter Tryd.func30, Tryd.ntmps30
  go_wp2_with fail
  refine wp_loop_rounds 2 ?_
  rw [rounds_succ]
  go_wp2_with fail
  refine hu.mono ?_
  rintro ev w' ⟨rfl, rfl⟩
  clear hu he h1 h2 mU
  go_wp2_with fail
  rw [rounds_succ]
  go_wp2_with fail
  go_ret
  exact ⟨rfl, rfl⟩

set_option maxHeartbeats 4000000 in
theorem errors_Is_fault (e : Nat) (i : Int) (field : ByteArray) (b : Int) (w : World) (h : FaultAt w e i field (.iface 41 (.int .i64 b))) :
    Calls Tryd.prog 14 #[.iface 39 (.pointer (some ⟨e, 0, none⟩)), .iface 41 (.int .i64 b)] w fun ev w' => ev = .returned (.bool true) ∧ w = w' := by
  have hc := is_fault e i field b w h
  have hT := @run_callFunc_extern Tryd.prog 29 _ ReflectliteType.typeOf Tryd.func29 (by kernel_rfl) (by kernel_rfl) (by kernel_rfl) (by kernel_rfl)
  have tO := typeOf_code
  have mC := method_comparable
  have hF := @run_callFunc_extern Tryd.prog 78 _ (ReflectliteType.method fun t => do Rtype.noPackHeld "Comparable" t; pure (.bool (← typeInfo t).comparable)) Tryd.func78 (by kernel_rfl) (by kernel_rfl) (by kernel_rfl) (by kernel_rfl)
  have cC := comparable_code
  clear h
  go_enter Tryd.func14, Tryd.ntmps14
  go_wp2_with (go_at_call 30; refine hc.mono ?_; rintro ev w' ⟨rfl, rfl⟩)
  go_ret
  exact ⟨rfl, rfl⟩

end Go.Proofs.YtmohbbmokcnbhaaDoor
