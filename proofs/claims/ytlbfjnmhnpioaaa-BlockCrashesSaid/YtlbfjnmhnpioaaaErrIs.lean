/-
  errors.Is at two codes: it tells whether they are one.
-/
import Derived.Test.YtlbfjnmhnpioaaaRows
import Derived.WalkKit
import Derived.LaidEql
import Derived.Stop.Asserts
import Derived.RowKitTokens
import Derived.Lib.Hide
namespace Go.Proofs.Ytlbfjnmhnpioaaa
open Go.RowKit Go.Extern.Stop Go.Stop Go.Extern
set_option linter.unusedVariables false
section
variable {P : Program} (w : World)
theorem run_equalIn_iface_int (d : Nat) {ti tn : TypeId} {ms : Array (String × TypeId)} {i : TypeInfo} {k : IntKind} (a b : Int)
    (hi : P.underlying ti = some (.interface ms)) (hn : P.underlying tn = some (.int k)) (hinfo : P.info? tn = some i) (hcomp : i.comparable = true) :
    (Op.equalIn (d + 2) ti (.iface tn (.int k a)) (.iface tn (.int k b))).run P w = .ok (a == b) w := by
  simp [Op.equalIn, run_underlying hi, run_underlying hn, typeInfo, hinfo, hcomp]
/-- 'x == y', both interface values of one integer type: as the numbers are. -/
theorem run_eql_iface_int {ti tn : TypeId} {ms : Array (String × TypeId)} {i : TypeInfo} {k : IntKind} (a b : Int)
    (hi : P.underlying ti = some (.interface ms)) (hn : P.underlying tn = some (.int k)) (hinfo : P.info? tn = some i) (hcomp : i.comparable = true) :
    (binOp .eql ti (.iface tn (.int k a)) (.iface tn (.int k b))).run P w = .ok (.bool (a == b)) w := by
  simp only [binOp]
  simp [Op.equal, Op.maxDepth, run_equalIn_iface_int w 9998 a b hi hn hinfo hcomp]
end

theorem code_eql (a b : Int) (w : World) : (binOp .eql 28 (.iface 41 (.int .i64 a)) (.iface 41 (.int .i64 b))).run Try.prog w = .ok (.bool (a == b)) w :=
  run_eql_iface_int w a b Try.underlying28 Try.underlying41 rfl rfl

theorem noIs_code (v : Value) (w : World) : (Instr.typeAssert (.iface 41 v) 28 77 true).run Try.prog w = .ok (.tuple #[.nilIface, .bool false]) w := run_typeAssert_lacksB Try.underlying77 (by kernel_rfl) (by kernel_rfl) v _ w
theorem noUnwrap_code (v : Value) (w : World) : (Instr.typeAssert (.iface 41 v) 28 80 true).run Try.prog w = .ok (.tuple #[.nilIface, .bool false]) w := run_typeAssert_lacksB Try.underlying80 (by kernel_rfl) (by kernel_rfl) v _ w
theorem noUnwraps_code (v : Value) (w : World) : (Instr.typeAssert (.iface 41 v) 28 82 true).run Try.prog w = .ok (.tuple #[.nilIface, .bool false]) w := run_typeAssert_lacksB Try.underlying82 (by kernel_rfl) (by kernel_rfl) v _ w

set_option maxRecDepth 100000 in
set_option maxHeartbeats 4000000 in
theorem is_codes (a b : Int) (w : World) :
    Calls Try.prog 24 #[.iface 41 (.int .i64 a), .iface 41 (.int .i64 b), .bool true] w fun e w' => e = .returned (.bool (a == b)) ∧ w = w' := by
  have he := code_eql a b
  have h1 := noIs_code (.int .i64 a)
  have h2 := noUnwrap_code (.int .i64 a)
  have h3 := noUnwraps_code (.int .i64 a)
  cases hab : (a == b)
  all_goals
    rw [hab] at he
    clear hab
    go_enter Try.func24, Try.ntmps24
    go_wp2_with fail
    refine wp_loop_rounds 1 ?_
    rw [rounds_succ]
    go_wp2_with fail
    go_ret
    exact ⟨rfl, rfl⟩

theorem typeOf_code (v : Value) (w : World) : (ReflectliteType.typeOf #[.iface 41 v]).run Try.prog w = .ok (.iface 75 (.agg #[.pointer (some ⟨0, 41, none⟩)])) w := by kernel_rfl

theorem method_comparable (h : Value) (w : World) : (Go.method 218 75 (.agg #[h]) "Comparable").run Try.prog w = .ok (47, .agg #[h]) w := by kernel_rfl
theorem comparable_code (w : World) : ((ReflectliteType.method fun t => do Rtype.noPackHeld "Comparable" t; (fun a : TypeInfo => Value.bool a.comparable) <$> typeInfo t) #[.agg #[.pointer (some ⟨0, 41, none⟩)]]).run Try.prog w = .ok (.bool true) w := by kernel_rfl

set_option maxRecDepth 100000 in
set_option maxHeartbeats 4000000 in
theorem errors_Is_codes (a b : Int) (w : World) :
    Calls Try.prog 12 #[.iface 41 (.int .i64 a), .iface 41 (.int .i64 b)] w fun e w' => e = .returned (.bool (a == b)) ∧ w = w' := by
  have hc := fun W => is_codes a b W
  have hT := @run_callFunc_extern Try.prog 23 _ ReflectliteType.typeOf Try.func23 (by kernel_rfl) (by kernel_rfl) (by kernel_rfl) (by kernel_rfl)
  have tO := typeOf_code
  have mC := method_comparable
  have hF := @run_callFunc_extern Try.prog 47 _ (ReflectliteType.method fun t => do Rtype.noPackHeld "Comparable" t; pure (.bool (← typeInfo t).comparable)) Try.func47 (by kernel_rfl) (by kernel_rfl) (by kernel_rfl) (by kernel_rfl)
  have cC := comparable_code
  go_enter Try.func12, Try.ntmps12
  go_wp2_with (go_at_call 24; refine (hc _).mono ?_; rintro e w' ⟨rfl, rfl⟩)
  go_ret
  exact ⟨rfl, rfl⟩

end Go.Proofs.Ytlbfjnmhnpioaaa
