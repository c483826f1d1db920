/-
  awake; SearchFolds.
-/
import Derived.Test.YtmpbofmhjjgccaaFind
namespace Go.Proofs.Ytmpbofmhjjgccaa
open Go.RowKit
set_option maxRecDepth 100000
set_option linter.unusedVariables false
set_option linter.unusedSimpArgs false

def awL : List SV := [⟨⟨#[33, 97, 58, 120]⟩, ByteArray.empty, ⟨#[84, 104, 101, 32, 104, 97, 108, 108]⟩, ByteArray.empty, ByteArray.empty, ByteArray.empty, ByteArray.empty, 0, false, false⟩,
  ⟨⟨#[33, 98, 58, 120]⟩, ByteArray.empty, ByteArray.empty, ByteArray.empty, ByteArray.empty, ByteArray.empty, ByteArray.empty, 0, false, false⟩]
def awX : SV := ⟨⟨#[33, 97, 58, 120]⟩, ByteArray.empty, ⟨#[84, 104, 101, 32, 104, 97, 108, 108]⟩, ByteArray.empty, ByteArray.empty, ByteArray.empty, ByteArray.empty, 0, false, false⟩
def awQ : QV := ⟨⟨#[72, 65, 76, 76]⟩, [], 5, 0⟩
theorem aw_fit : fitL awQ awL = [awX] := by rfl
theorem aw_page : pageL awQ awL = [awX] := by unfold pageL restL; rw [aw_fit]; rfl
theorem aw_next : nextI awQ awL = -1 := by unfold nextI restL; rw [aw_fit]; rfl
theorem aw_prev : prevI awQ = -1 := by rfl

set_option maxHeartbeats 4000000 in
theorem awake_any (w : World) (hM : MaxAt w) :
    Calls Try.prog 5 #[] w fun e w' => e = .returned (.bool true) ∧ Below w.heap.size w w' := by
  have hb1 : Below w.heap.size w (w.alloc (.cells (sumC awL).toArray 42)) := (Below.refl _ w).alloc (Nat.le_refl _) _
  have hI : InAt (w.alloc (.cells (sumC awL).toArray 42)) (.slice (some ⟨w.heap.size, 0, none⟩) 2 2) awL :=
    .inr ⟨w.heap.size, 2, [], rfl, by decide, (heap_alloc_new _ _).trans (by rw [List.append_nil])⟩
  have hf := find_any _ awL awQ none 0 _ hI (by decide) (by intro x hx; simp [awL] at hx; rcases hx with rfl | rfl <;> constructor <;> decide) (hM.below hb1) (.inl rfl) (by decide) (by decide) (by simp) (by decide) (by decide) (by decide) (by decide)
  have HM := Lib.hid hM
  have HB1 := Lib.hid hb1
  clear hM hI hb1
  go_enter Try.func5, Try.ntmps5
  go_wp2_with fail
  refine Calls.mono hf ?_
  rintro e w1 ⟨⟨rp, rc, rfl, hr⟩, hb⟩
  have hb2 := HB1.out.trans (hb.mono HB1.out.size)
  clear hf hb
  rw [aw_page] at hr
  rw [aw_page, aw_fit, aw_next, aw_prev]
  obtain ⟨g, o, rfl, hc⟩ : ∃ g o, rp = some ⟨g, o, none⟩ ∧ ∀ j x i u, [awX][j]? = some x → x.cells[i]? = some u → w1.cell? ⟨g, o + (j * 10 + i), none⟩ = some u := by
    rcases hr with h | ⟨g, o, h1, h2⟩
    · cases h
    · exact ⟨g, o, h1, h2⟩
  have h0 : w1.cell? ⟨g, o, none⟩ = some (.string ⟨#[33, 97, 58, 120]⟩) := hc 0 awX 0 _ rfl rfl
  have hne : g ≠ w1.heap.size := Nat.ne_of_lt (World.block_lt_of_cell? w1 ⟨g, o, none⟩ h0)
  have h0' := ((((Below.refl w1.heap.size w1).alloc (Nat.le_refl _) (.cells #[.slice (some ⟨g, o, none⟩) 1 rc, .int .i64 1, .int .i64 (-1), .int .i64 (-1)] 32))).cell (World.block_lt_of_cell? w1 ⟨g, o, none⟩ h0)).trans h0
  have HB2 := Lib.hid hb2
  clear hr hc hb2
  go_wp2_with fail
  go_ret
  exact ⟨rfl, HB2.out.alloc HB2.out.size _⟩

set_option maxHeartbeats 4000000 in
theorem folds_walk (s : ByteArray) (hs : s.size ≤ maxLen) (w : World) (hM : MaxAt w) :
    Calls Try.prog 4 #[.string s] w fun e w' => e = .returned (.bool true) ∧ Below w.heap.size w w' := by
  have haw := awake_any w hM
  by_cases hlong : (500 : Int) < (s.size : Int)
  · have HM := Lib.hid hM
    clear hM
    go_enter Try.func4, Try.ntmps4
    go_wp2_with fail
    refine haw.mono ?_
    rintro e w1 ⟨rfl, hb1⟩
    clear haw
    have haw := awake_any w1 (HM.out.below hb1)
    go_wp2_with fail
    refine haw.mono ?_
    rintro e w2 ⟨rfl, hb2⟩
    clear haw
    go_wp2_with fail
    go_ret
    exact ⟨rfl, hb1.trans (hb2.mono hb1.size)⟩
  · have HM := Lib.hid hM
    have h1 := fun W : World => fold_any s W hs
    have h2 := fun W : World => refFold_any s W (by omega)
    have h3 := fun W : World => fold_any (foldS s) W (by rw [size_foldS]; exact hs)
    rw [foldS_twice] at h3
    have hsz : (foldS s).size = s.size := size_foldS s
    generalize foldS s = f at h1 h2 h3 hsz
    clear hM hs
    go_enter Try.func4, Try.ntmps4
    go_wp2_with fail
    refine haw.mono ?_
    rintro e w1 ⟨rfl, hb1⟩
    clear haw
    go_wp2_with fail
    refine (h1 _).mono ?_
    rintro e w2 ⟨rfl, hb2⟩
    have hB2 := hb1.trans (hb2.mono hb1.size)
    clear h1
    go_wp2_with fail
    refine (h2 _).mono ?_
    rintro e w3 ⟨rfl, hb3⟩
    have hB3 := hB2.trans (hb3.mono hB2.size)
    clear h2
    go_wp2_with fail
    refine (h3 _).mono ?_
    rintro e w4 ⟨rfl, hb4⟩
    have hB4 := hB3.trans (hb4.mono hB3.size)
    clear h3
    go_wp2_with fail
    go_ret
    exact ⟨rfl, hB4⟩

end Go.Proofs.Ytmpbofmhjjgccaa
