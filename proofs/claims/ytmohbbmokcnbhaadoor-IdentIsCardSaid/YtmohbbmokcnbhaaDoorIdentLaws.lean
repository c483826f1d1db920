/-
  'ident': the fixed example, and plain facts: no text is a name of two kinds.
-/
import Derived.Test.YtmohbbmokcnbhaaDoorIdent
namespace Go.Proofs.YtmohbbmokcnbhaaDoor
open Go.RowKit
set_option linter.unusedVariables false

theorem ex_user : isB 2 ⟨#[64, 97, 110, 110, 58, 120, 46, 111, 114, 103]⟩ = true := by decide +kernel
theorem ex_room : isB 1 ⟨#[64, 97, 110, 110, 58, 120, 46, 111, 114, 103]⟩ = false := by decide +kernel
theorem ex_of : ofB ⟨#[33, 97, 58, 98, 58, 56, 48]⟩ = ⟨#[98, 58, 56, 48]⟩ := by decide +kernel

set_option maxHeartbeats 400000 in
theorem awake4_any (w : World) : Calls Tryd.prog 5 #[] w fun e w' => e = .returned (.bool true) ∧ Below w.heap.size w w' := by
  have h1 := fun W : World => is_any 2 ⟨#[64, 97, 110, 110, 58, 120, 46, 111, 114, 103]⟩ W (by decide)
  have h2 := fun W : World => of_any ⟨#[33, 97, 58, 98, 58, 56, 48]⟩ W (by decide)
  have h3 := fun W : World => is_any 1 ⟨#[64, 97, 110, 110, 58, 120, 46, 111, 114, 103]⟩ W (by decide)
  rw [ex_user] at h1
  rw [ex_room] at h3
  rw [ex_of] at h2
  go_enter Tryd.func5, Tryd.ntmps5
  go_wp2_with fail
  refine (h1 _).mono ?_
  rintro e w1 ⟨rfl, hb1⟩
  go_wp2_with fail
  refine (h2 _).mono ?_
  rintro e w2 ⟨rfl, hb2⟩
  go_wp2_with fail
  refine (h3 _).mono ?_
  rintro e w3 ⟨rfl, hb3⟩
  go_wp2_with fail
  go_ret
  exact ⟨rfl, (hb1.trans (hb2.mono hb1.size)).trans (hb3.mono (Nat.le_trans hb1.size hb2.size))⟩

end Go.Proofs.YtmohbbmokcnbhaaDoor
