/-
  The walks of the bytes' predicates of 'ident'.
-/
import Derived.Test.YtmohbbmokcnbhaaDoorIdentPure
import Derived.Test.YtmohbbmokcnbhaaDoorStrs
namespace Go.Proofs.YtmohbbmokcnbhaaDoor
open Go.RowKit
set_option linter.unusedVariables false

set_option maxHeartbeats 400000 in
theorem digit_fit (w : World) : FitAt Tryd.prog 37 #[] digitB w := fun W c _ => by
  by_cases h1 : 48 ≤ c.toNat <;> by_cases h2 : c.toNat ≤ 57
  all_goals
    have z1 : (48 : Int) ≤ (c.toNat : Int) ↔ 48 ≤ c.toNat := by omega
    have z2 : (c.toNat : Int) ≤ 57 ↔ c.toNat ≤ 57 := by omega
    go_enter Tryd.func37, Tryd.ntmps37
    go_wp2
    all_goals first | (exfalso; omega) | (go_ret; exact ⟨by simp [digitB, h1, h2], rfl⟩)

set_option maxHeartbeats 400000 in
theorem plain_fit (w : World) : FitAt Tryd.prog 18 #[] plainB w := fun W c _ => by
  have hd := fun W' : World => digit_fit W' W' c (Below.refl _ _)
  go_enter Tryd.func18, Tryd.ntmps18
  go_wp2_with (go_at_call 37; refine (hd _).mono ?_; rintro e w' ⟨rfl, rfl⟩)
  all_goals
    go_ret
    refine ⟨ret_bool ?_, rfl⟩
    unfold plainB lowB
    by_cases h1 : 97 ≤ c.toNat <;> by_cases h2 : c.toNat ≤ 122 <;> simp [h1, h2] <;> omega

set_option maxHeartbeats 400000 in
theorem opaque_fit (w : World) : FitAt Tryd.prog 19 #[] opaqueB w := fun W c _ => by
  have hd := fun W' : World => plain_fit W' W' c (Below.refl _ _)
  go_enter Tryd.func19, Tryd.ntmps19
  cases hp : plainB c
  all_goals
    rw [hp] at hd
    go_wp2_with (go_at_call 18; refine (hd _).mono ?_; rintro e w' ⟨rfl, rfl⟩)
    all_goals
      go_ret
      refine ⟨ret_bool ?_, rfl⟩
      unfold opaqueB uppB
      rw [hp, Bool.eq_iff_iff]
      simp
      try omega

set_option maxHeartbeats 400000 in
theorem hex_fit (w : World) : FitAt Tryd.prog 41 #[] hexB w := fun W c _ => by
  have hd := fun W' : World => digit_fit W' W' c (Below.refl _ _)
  go_enter Tryd.func41, Tryd.ntmps41
  cases hp : digitB c
  all_goals
    rw [hp] at hd
    go_wp2_with (go_at_call 37; refine (hd _).mono ?_; rintro e w' ⟨rfl, rfl⟩)
    all_goals
      go_ret
      refine ⟨ret_bool ?_, rfl⟩
      unfold hexB
      rw [hp, Bool.eq_iff_iff]
      simp
      try omega

/-- A function value that is made by 'with': it captures the other one, and the bytes. -/
theorem with_fit (w : World) (more : ByteArray) (g : Nat) (lb : Array Value) (p : UInt8 → Bool) (bf bm : Nat) (eg : ∀ args w, (callFunc g args).run Tryd.prog w = .ok (.enter g args) w)
    (hf : FitAt Tryd.prog g lb p w) (hbf : bf < w.heap.size) (hbm : bm < w.heap.size)
    (hcf : w.cell? ⟨bf, 0, none⟩ = some (.func (.func g) #[] lb)) (hcm : w.cell? ⟨bm, 0, none⟩ = some (.string more)) :
    FitAt Tryd.prog 35 #[.pointer (some ⟨bf, 0, none⟩), .pointer (some ⟨bm, 0, none⟩)] (withB more.data.toList p) w := fun W c hb => by
  have hcf' : W.cell? ⟨bf, 0, none⟩ = some (.func (.func g) #[] lb) := (hb.cell (p := ⟨bf, 0, none⟩) hbf).trans hcf
  have hcm' : W.cell? ⟨bm, 0, none⟩ = some (.string more) := (hb.cell (p := ⟨bm, 0, none⟩) hbm).trans hcm
  have hd := hf W c hb
  cases hp : p c
  all_goals
    rw [hp] at hd
    go_enter Tryd.func35, Tryd.ntmps35
    go_wp2_with (first | (go_at_fn g; refine hd.mono ?_; rintro e w' ⟨rfl, rfl⟩) | (go_at_call 36; refine (strings_IndexByte _ _ _).mono ?_; rintro e w' ⟨rfl, rfl⟩))
    go_ret
    refine ⟨ret_bool ?_, rfl⟩
    simp [withB, hp]

end Go.Proofs.YtmohbbmokcnbhaaDoor
