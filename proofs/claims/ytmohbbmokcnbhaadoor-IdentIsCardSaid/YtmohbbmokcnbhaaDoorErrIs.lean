/-
  errors.Is at two codes: it tells whether they are one.
-/
import Derived.Test.YtmohbbmokcnbhaaDoorRows
import Derived.WalkKit
import Derived.LaidEql
import Derived.Stop.Asserts
import Derived.RowKitTokens
import Derived.Lib.Hide
namespace Go.Proofs.YtmohbbmokcnbhaaDoor
open Go.RowKit Go.Extern.Stop Go.Stop Go.Extern
set_option linter.unusedVariables false
section
variable {P : Program} (w : World)
theorem run_equalIn_iface_int (d : Nat) {ti tn : TypeId} {ms : Array (String × TypeId)} {i : TypeInfo} {k : IntKind} (a b : Int)
    (hi : P.underlying ti = some (.interface ms)) (hn : P.underlying tn = some (.int k)) (hinfo : P.info? tn = some i) (hcomp : i.comparable = true) :
    (Op.equalIn (d + 2) ti (.iface tn (.int k a)) (.iface tn (.int k b))).run P w = .ok (a == b) w := by
  simp [Op.equalIn, run_underlying hi, run_underlying hn, typeInfo, hinfo, hcomp]
/-- 'x == y', both interface values of one integer type: as the numbers are. -/
theorem run_eql_iface_int {ti tn : TypeId} {ms : Array (String × TypeId)} {i : TypeInfo} {k : IntKind} (a b : Int)
    (hi : P.underlying ti = some (.interface ms)) (hn : P.underlying tn = some (.int k)) (hinfo : P.info? tn = some i) (hcomp : i.comparable = true) :
    (binOp .eql ti (.iface tn (.int k a)) (.iface tn (.int k b))).run P w = .ok (.bool (a == b)) w := by
  simp only [binOp]
  simp [Op.equal, Op.maxDepth, run_equalIn_iface_int w 9998 a b hi hn hinfo hcomp]
end

theorem info_code : (Tryd.prog.info? 41).map (·.comparable) = some true := by kernel_rfl
theorem code_eql (a b : Int) (w : World) : (binOp .eql 25 (.iface 41 (.int .i64 a)) (.iface 41 (.int .i64 b))).run Tryd.prog w = .ok (.bool (a == b)) w := by
  cases hi : Tryd.prog.info? 41 with
  | none => have h := info_code; rw [hi] at h; cases h
  | some i =>
    have h := info_code
    rw [hi] at h
    exact run_eql_iface_int w a b Tryd.underlying25 Tryd.underlying41 hi (by simpa using h)

theorem noIs_code (v : Value) (w : World) : (Instr.typeAssert (.iface 41 v) 25 79 true).run Tryd.prog w = .ok (.tuple #[.nilIface, .bool false]) w := run_typeAssert_lacksB Tryd.underlying79 (by kernel_rfl) (by kernel_rfl) v _ w
theorem noUnwrap_code (v : Value) (w : World) : (Instr.typeAssert (.iface 41 v) 25 82 true).run Tryd.prog w = .ok (.tuple #[.nilIface, .bool false]) w := run_typeAssert_lacksB Tryd.underlying82 (by kernel_rfl) (by kernel_rfl) v _ w
theorem noUnwraps_code (v : Value) (w : World) : (Instr.typeAssert (.iface 41 v) 25 84 true).run Tryd.prog w = .ok (.tuple #[.nilIface, .bool false]) w := run_typeAssert_lacksB Tryd.underlying84 (by kernel_rfl) (by kernel_rfl) v _ w

set_option maxRecDepth 100000 in
set_option maxHeartbeats 4000000 in
theorem is_codes (a b : Int) (w : World) :
    Calls Tryd.prog 30 #[.iface 41 (.int .i64 a), .iface 41 (.int .i64 b), .bool true] w fun e w' => e = .returned (.bool (a == b)) ∧ w = w' := by
  have he := code_eql a b
  have h1 := noIs_code (.int .i64 a)
  have h2 := noUnwrap_code (.int .i64 a)
  have h3 := noUnwraps_code (.int .i64 a)
  cases hab : (a == b)
  all_goals
    rw [hab] at he
    clear hab
    go_enter Tryd.func30, Tryd.ntmps30
    go_wp2_with fail
    refine wp_loop_rounds 1 ?_
    rw [rounds_succ]
    go_wp2_with fail
    go_ret
    exact ⟨rfl, rfl⟩

theorem typeOf_code (v : Value) (w : World) : (ReflectliteType.typeOf #[.iface 41 v]).run Tryd.prog w = .ok (.iface 77 (.agg #[.pointer (some ⟨2, 41, none⟩)])) w := by kernel_rfl

theorem method_comparable (h : Value) (w : World) : (Go.method 228 77 (.agg #[h]) "Comparable").run Tryd.prog w = .ok (78, .agg #[h]) w := by kernel_rfl
theorem comparable_code (w : World) : ((ReflectliteType.method fun t => do Rtype.noPackHeld "Comparable" t; (fun a : TypeInfo => Value.bool a.comparable) <$> typeInfo t) #[.agg #[.pointer (some ⟨2, 41, none⟩)]]).run Tryd.prog w = .ok (.bool true) w := by kernel_rfl

set_option maxRecDepth 100000 in
set_option maxHeartbeats 4000000 in
theorem errors_Is_codes (a b : Int) (w : World) :
    Calls Tryd.prog 14 #[.iface 41 (.int .i64 a), .iface 41 (.int .i64 b)] w fun e w' => e = .returned (.bool (a == b)) ∧ w = w' := by
  have hc := fun W => is_codes a b W
  have hT := @run_callFunc_extern Tryd.prog 29 _ ReflectliteType.typeOf Tryd.func29 (by kernel_rfl) (by kernel_rfl) (by kernel_rfl) (by kernel_rfl)
  have tO := typeOf_code
  have mC := method_comparable
  have hF := @run_callFunc_extern Tryd.prog 78 _ (ReflectliteType.method fun t => do Rtype.noPackHeld "Comparable" t; pure (.bool (← typeInfo t).comparable)) Tryd.func78 (by kernel_rfl) (by kernel_rfl) (by kernel_rfl) (by kernel_rfl)
  have cC := comparable_code
  go_enter Tryd.func14, Tryd.ntmps14
  go_wp2_with (go_at_call 30; refine (hc _).mono ?_; rintro e w' ⟨rfl, rfl⟩)
  go_ret
  exact ⟨rfl, rfl⟩

end Go.Proofs.YtmohbbmokcnbhaaDoor
