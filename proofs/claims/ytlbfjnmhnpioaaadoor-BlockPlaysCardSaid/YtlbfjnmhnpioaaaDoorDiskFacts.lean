/-
  Contracts over a disk.
-/
import Derived.Test.YtlbfjnmhnpioaaaDoorBlockAwake
namespace Go.Proofs.YtlbfjnmhnpioaaaDoor
open Go.RowKit
set_option linter.unusedVariables false

def zeroS (n : Nat) : St := { bs := List.replicate (n * 64) 0, f := none, c := none, st := 0 }
theorem arm_zeroC (n F : Nat) : armC (zeroS n) F = 0 := by
  rw [armC, if_neg (by omega), if_neg (by simp [zeroS])]
theorem arm_zeroS (n F : Nat) : armS (zeroS n) F = { bs := List.replicate (n * 64) 0, f := some (F : Int), c := none, st := 0 } := by
  rw [armS, if_neg (by simp [zeroS])]; rfl

theorem Disk.steps {w : World} {g bb : Nat} {fu : Value} {n : Nat} {s : St} (h : Disk w g bb fu n s) :
    Calls Tryd.prog 25 #[.pointer (some ⟨g, 0, none⟩)] w fun e w' => e = .returned (.int .i64 s.st) ∧ w = w' := by
  obtain ⟨cu, cap, sp, h⟩ := h
  exact steps_any g s.st w h.c3
theorem Disk.dead {w : World} {g bb : Nat} {fu : Value} {n : Nat} {s : St} (h : Disk w g bb fu n s) :
    Calls Tryd.prog 21 #[.pointer (some ⟨g, 0, none⟩)] w fun e w' => e = .returned (.bool s.c.isSome) ∧ w = w' := by
  obtain ⟨cu, cap, sp, h⟩ := h
  exact dead_any h
theorem Disk.len {w : World} {g bb : Nat} {fu : Value} {n : Nat} {s : St} (h : Disk w g bb fu n s) :
    Calls Tryd.prog 24 #[.pointer (some ⟨g, 0, none⟩)] w fun e w' => e = .returned (.int .i64 n) ∧ w = w' := by
  obtain ⟨cu, cap, sp, h⟩ := h
  exact len_any g bb n cap w h.c0

end Go.Proofs.YtlbfjnmhnpioaaaDoor
