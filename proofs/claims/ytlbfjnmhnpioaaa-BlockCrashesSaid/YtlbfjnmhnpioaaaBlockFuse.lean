/-
  BlockFuse.
-/
import Derived.Test.YtlbfjnmhnpioaaaBlockAwake
namespace Go.Proofs.Ytlbfjnmhnpioaaa
open Go.RowKit
set_option linter.unusedVariables false

def zeroS (n : Nat) : St := { bs := List.replicate (n * 64) 0, f := none, c := none, st := 0 }
theorem arm_zeroC (n F : Nat) : armC (zeroS n) F = 0 := by
  rw [armC, if_neg (by omega), if_neg (by simp [zeroS])]
theorem arm_zeroS (n F : Nat) : armS (zeroS n) F = { bs := List.replicate (n * 64) 0, f := some (F : Int), c := none, st := 0 } := by
  rw [armS, if_neg (by simp [zeroS])]; rfl

theorem Disk.steps {w : World} {g bb : Nat} {fu : Value} {n : Nat} {s : St} (h : Disk w g bb fu n s) :
    Calls Try.prog 13 #[.pointer (some ⟨g, 0, none⟩)] w fun e w' => e = .returned (.int .i64 s.st) ∧ w = w' := by
  obtain ⟨cu, cap, sp, h⟩ := h
  exact steps_any g s.st w h.c3
theorem Disk.dead {w : World} {g bb : Nat} {fu : Value} {n : Nat} {s : St} (h : Disk w g bb fu n s) :
    Calls Try.prog 14 #[.pointer (some ⟨g, 0, none⟩)] w fun e w' => e = .returned (.bool s.c.isSome) ∧ w = w' := by
  obtain ⟨cu, cap, sp, h⟩ := h
  exact dead_any h
theorem Disk.len {w : World} {g bb : Nat} {fu : Value} {n : Nat} {s : St} (h : Disk w g bb fu n s) :
    Calls Try.prog 26 #[.pointer (some ⟨g, 0, none⟩)] w fun e w' => e = .returned (.int .i64 n) ∧ w = w' := by
  obtain ⟨cu, cap, sp, h⟩ := h
  exact len_any g bb n cap w h.c0

def fuseB (i : Nat) : List UInt8 := [UInt8.ofNat i]
/-- The disk behind as many writes. -/
def fuseS (F : Nat) : Nat → St
  | 0 => armS (zeroS 3) F
  | i + 1 => wrS 3 (fuseS F i) ((i % 3 : Nat) : Int) (fuseB i)

theorem fuse_facts (F : Nat) : ∀ i, (i ≤ F → (fuseS F i).f = some ((F - i : Nat) : Int) ∧ (fuseS F i).c = none ∧ (fuseS F i).st = i) ∧
    (F < i → (fuseS F i).f = some 0 ∧ (∃ k x, (fuseS F i).c = some (k, x) ∧ k < 3) ∧ (fuseS F i).st = F)
  | 0 => ⟨fun _ => by rw [fuseS, arm_zeroS]; exact ⟨rfl, rfl, rfl⟩, fun h => by omega⟩
  | i + 1 => by
    have ih := fuse_facts F i
    have hb : (fuseB i).length = 1 := rfl
    constructor
    · intro h
      obtain ⟨h1, h2, h3⟩ := ih.1 (by omega)
      have hn : ¬ wrBad 3 (fuseS F i) ((i % 3 : Nat) : Int) (fuseB i) := by unfold wrBad; rw [h2, hb]; simp; omega
      have hf : ¬ (fuseS F i).f = some 0 := by rw [h1]; simp; omega
      rw [fuseS, wrS, if_neg hn, if_neg hf]
      refine ⟨?_, rfl, ?_⟩
      · show (fuseS F i).f.map _ = _
        rw [h1]; simp; omega
      · show (fuseS F i).st + 1 = _
        rw [h3]; omega
    · intro h
      by_cases hi : i ≤ F
      · obtain ⟨h1, h2, h3⟩ := ih.1 hi
        have hn : ¬ wrBad 3 (fuseS F i) ((i % 3 : Nat) : Int) (fuseB i) := by unfold wrBad; rw [h2, hb]; simp; omega
        have hf : (fuseS F i).f = some 0 := by rw [h1]; simp; omega
        rw [fuseS, wrS, if_neg hn, if_pos hf]
        refine ⟨hf, ⟨i % 3, _, rfl, by omega⟩, ?_⟩
        show (fuseS F i).st = _
        rw [h3]; omega
      · obtain ⟨h1, ⟨k, x, h2, hk⟩, h3⟩ := ih.2 (by omega)
        have hn : wrBad 3 (fuseS F i) ((i % 3 : Nat) : Int) (fuseB i) := .inr (.inr (by rw [h2]; rfl))
        rw [fuseS, wrS, if_pos hn]
        exact ⟨h1, ⟨k, x, h2, hk⟩, h3⟩
theorem fuse_st (F i : Nat) : (fuseS F i).st = ((min F i : Nat) : Int) := by
  have h := fuse_facts F i
  by_cases hi : i ≤ F
  · rw [(h.1 hi).2.2]; omega
  · rw [(h.2 (by omega)).2.2]; omega
theorem fuse_ok (F i : Nat) (hF : F < 256) : StOk (fuseS F i) := by
  have h := fuse_facts F i
  by_cases hi : i ≤ F
  · obtain ⟨h1, h2, h3⟩ := h.1 hi
    exact ⟨by rw [h3]; omega, by rw [h3]; omega, fun k hk => by rw [h1] at hk; injection hk with hk; omega⟩
  · obtain ⟨h1, h2, h3⟩ := h.2 (by omega)
    exact ⟨by rw [h3]; omega, by rw [h3]; omega, fun k hk => by rw [h1] at hk; injection hk with hk; omega⟩
theorem fuse_code (F i : Nat) : wrC 3 (fuseS F i) ((i % 3 : Nat) : Int) (fuseB i) = if i < F then 0 else 19 := by
  have h := fuse_facts F i
  have h0 : (0 : Int) ≤ ((i % 3 : Nat) : Int) ∧ ((i % 3 : Nat) : Int) < (3 : Nat) := by omega
  have hb : ¬ 64 < (fuseB i).length := by show ¬ 64 < 1; omega
  rw [wrC, if_neg (by simpa using h0), if_neg hb]
  by_cases hi : i ≤ F
  · obtain ⟨h1, h2, h3⟩ := h.1 hi
    rw [h2, h1]
    simp
    by_cases hl : i < F
    · rw [if_neg (by omega), if_pos hl]
    · rw [if_pos (by omega), if_neg hl]
  · obtain ⟨h1, ⟨k, x, h2, _⟩, h3⟩ := h.2 (by omega)
    rw [h2, if_neg (by omega : ¬ i < F)]
    simp
theorem fuse_dead (F i : Nat) : (fuseS F i).c.isSome = decide (F < i) := by
  have h := fuse_facts F i
  by_cases hi : i ≤ F
  · rw [(h.1 hi).2.1]; simp; omega
  · obtain ⟨_, ⟨k, x, h2, _⟩, _⟩ := h.2 (by omega)
    rw [h2]; simp; omega

set_option maxRecDepth 100000 in
set_option maxHeartbeats 4000000 in
theorem fuse6_any (F M : Nat) (hF : F < 256) (hM : M < 256) (w : World) : Calls Try.prog 4 #[.int .u8 F, .int .u8 M] w fun e w' => e = .returned (.bool true) ∧ Below w.heap.size w w' := by
  have h0 := awake6_any w
  go_enter Try.func4, Try.ntmps4
  go_wp2_with fail
  refine h0.mono ?_
  rintro e w1 ⟨rfl, hb1⟩
  have h1 := mine_new 3 w1 (by omega) (by omega) w.heap.size w hb1 hb1.size
  clear h0
  go_wp2_with fail
  refine h1.mono ?_
  rintro e w2 ⟨g, bb, rfl, hm2, hb2, _, _⟩
  change Mine _ _ _ _ _ _ _ (zeroS 3) at hm2
  have h2 := hm2.arm F
  rw [arm_zeroC, show errV 0 = .nilIface from rfl] at h2
  clear h1
  go_wp2_with fail
  refine h2.mono ?_
  rintro e w3 ⟨rfl, ⟨fu, hm3⟩, _⟩
  change Mine _ _ _ _ _ _ _ (fuseS F 0) at hm3
  clear h2
  go_wp2_with fail
  go_loopw [7, 31] (fun d i wr => ∃ j : Nat, j ≤ M ∧ i = .int .i64 j ∧ d = .int .i64 ((min F j : Nat) : Int) ∧ Mine w.heap.size w wr g bb fu 3 (fuseS F j)) (fun _ i _ => M - (intOf i).toNat)
  case atStart => exact ⟨0, Nat.zero_le _, rfl, by simp, hm3⟩
  case round =>
    obtain ⟨j, hj, rfl, rfl, hm⟩ := hrel
    by_cases hlt : j < M
    · have e0 : (((j % 3 : Nat) : Int)) = (j : Int) % 3 := by omega
      have e1 : bytesV (fuseB j) = [.int .u8 j] := by
        have : (UInt8.ofNat j).toNat = j := by rw [UInt8.toNat_ofNat']; omega
        simp [bytesV, fuseB, this]
      have hA := bytes_lit wr (fuseB j) (0, 0)
      have h4 := (hm.later ((Below.refl _ wr).alloc (Nat.le_refl _) (.cells (bytesV (fuseB j)).toArray 5 (0, 0)))).write (fuse_ok F j hF) (by omega) ((j % 3 : Nat) : Int) (some ⟨wr.heap.size, 0, none⟩) (fuseB j) 1 (fun _ => hA)
      rw [fuse_code, e0, e1] at h4
      clear hA e1
      by_cases hFj : j < F
      · rw [if_pos hFj, show errV 0 = .nilIface from rfl] at h4
        go_wp2_with fail
        refine h4.mono ?_
        rintro e w4 ⟨rfl, hm4, hk4⟩
        rw [← e0] at hm4
        change Mine _ _ _ _ _ _ _ (fuseS F (j + 1)) at hm4
        clear h4 e0
        go_wp2_with fail
        go_roundw
        case rel => exact ⟨j + 1, by omega, by go_num, by rw [show min F j = j by omega, show min F (j + 1) = j + 1 by omega]; go_num, hm4⟩
        case measure => simp [intOf]; omega
      · rw [if_neg hFj, show errV 19 = .iface 41 (.int .i64 19) from rfl] at h4
        have hIs := errors_Is_codes 19 19
        go_wp2_with fail
        refine h4.mono ?_
        rintro e w4 ⟨rfl, hm4, hk4⟩
        rw [← e0] at hm4
        change Mine _ _ _ _ _ _ _ (fuseS F (j + 1)) at hm4
        clear h4 e0
        go_wp2_with fail
        refine (hIs _).mono ?_
        rintro e w5 ⟨rfl, rfl⟩
        go_wp2_with fail
        go_roundw
        case rel => exact ⟨j + 1, by omega, by go_num, by rw [show min F j = F by omega, show min F (j + 1) = F by omega], hm4⟩
        case measure => simp [intOf]; omega
    · have hjM : j = M := by omega
      subst hjM
      have h5 := hm.disk.steps
      have h6 := hm.disk.dead
      rw [fuse_st] at h5
      rw [fuse_dead] at h6
      by_cases hFj : F < j
      · have e1 : min F j = F := by omega
        rw [e1] at h5 ⊢
        rw [decide_eq_true hFj] at h6
        clear e1
        go_wp2_with fail
        refine h5.mono ?_
        rintro e w' ⟨rfl, rfl⟩
        clear h5
        go_wp2_with fail
        refine h6.mono ?_
        rintro e w' ⟨rfl, rfl⟩
        clear h6
        go_wp2_with fail
        go_ret
        exact ⟨rfl, hm.below⟩
      · have e1 : min F j = j := by omega
        rw [e1] at h5 ⊢
        rw [decide_eq_false hFj] at h6
        by_cases hE : j < F
        · clear e1
          go_wp2_with fail
          refine h5.mono ?_
          rintro e w' ⟨rfl, rfl⟩
          clear h5
          go_wp2_with fail
          refine h6.mono ?_
          rintro e w' ⟨rfl, rfl⟩
          clear h6
          go_wp2_with fail
          go_ret
          exact ⟨rfl, hm.below⟩
        · obtain rfl : F = j := by omega
          clear e1
          go_wp2_with fail
          refine h5.mono ?_
          rintro e w' ⟨rfl, rfl⟩
          clear h5
          go_wp2_with fail
          refine h6.mono ?_
          rintro e w' ⟨rfl, rfl⟩
          clear h6
          go_wp2_with fail
          go_ret
          exact ⟨rfl, hm.below⟩

theorem fuse6_row (a : Int) (ha : (Lit.int .u8 a).wf = true) (b : Int) (hb : (Lit.int .u8 b).wf = true) (w : World) :
    Calls Try.prog 4 #[.int .u8 a, .int .u8 b] w fun e w' => e = .returned (.bool true) ∧ Below w.heap.size w w' := by
  have h1 : 0 ≤ a ∧ a ≤ 255 := by simpa [Lit.wf, IntKind.min, IntKind.max, IntKind.bits, IntKind.signed] using ha
  have h2 : 0 ≤ b ∧ b ≤ 255 := by simpa [Lit.wf, IntKind.min, IntKind.max, IntKind.bits, IntKind.signed] using hb
  obtain ⟨F, rfl⟩ := Int.eq_ofNat_of_zero_le h1.1
  obtain ⟨M, rfl⟩ := Int.eq_ofNat_of_zero_le h2.1
  exact fuse6_any F M (by omega) (by omega) w

end Go.Proofs.Ytlbfjnmhnpioaaa
