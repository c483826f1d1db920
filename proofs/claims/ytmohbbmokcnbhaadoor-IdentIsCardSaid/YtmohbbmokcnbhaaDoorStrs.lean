/-
  The library's functions on texts, where the separator is one byte: IndexByte, Index, Cut, HasPrefix, CutPrefix.
-/
import Derived.Test.YtmohbbmokcnbhaaDoorRows
import Derived.WalkKit
import Derived.Lib.Bytealg
import Derived.Lib.Strings
import Derived.Lib.Walk
import Derived.WalkSpells
import Derived.Lib.Hide
import Derived.WalkLawsBesides
import Derived.Deep.QuietTactic
import Derived.BigQuiet
namespace Go.Proofs.YtmohbbmokcnbhaaDoor
open Go.RowKit
set_option linter.unusedVariables false

theorem below_drewN1 {B : Nat} {a w : World} (h : Below B a w) (q : Nat) : Below B a (w.drewN q) := ⟨h.os, h.tape, h.output, h.size, h.block⟩

set_option maxHeartbeats 400000 in
theorem lite_IndexByte (s : ByteArray) (c : Int) (w : World) :
    Calls Tryd.prog 44 #[.string s, .int .u8 c] w fun e w' => e = .returned (.int .i64 (Lib.indexByte s.data.toList c.toNat.toUInt8)) ∧ w = w' := by
  go_enter Tryd.func44, Tryd.ntmps44
  go_wp2
  rw [run_callFunc_extern Tryd.func47 (by kernel_rfl) (by kernel_rfl) (by kernel_rfl) (e := Extern.BytealgIndexByte.indexByte) (by kernel_rfl), Lib.run_indexByteString]
  simp only [Result.andThen]
  rw [Oper.upon_value]
  go_wp2
  go_ret
  exact ⟨rfl, rfl⟩

set_option maxHeartbeats 400000 in
theorem strings_IndexByte (s : ByteArray) (c : Int) (w : World) :
    Calls Tryd.prog 36 #[.string s, .int .u8 c] w fun e w' => e = .returned (.int .i64 (Lib.indexByte s.data.toList c.toNat.toUInt8)) ∧ w = w' := by
  go_enter Tryd.func36, Tryd.ntmps36
  go_wp2_with (go_at_call 44; refine (lite_IndexByte _ _ _).mono ?_; rintro e w' ⟨rfl, rfl⟩)
  go_ret
  exact ⟨rfl, rfl⟩

theorem indexByte_single (s : ByteArray) (c : UInt8) (h : ([c] == s.toList) = true) : Lib.indexByte s.data.toList c = 0 := by
  rw [ByteArray.toList_eq] at h
  have h2 : s.data.toList = [c] := by simpa using (beq_iff_eq.1 h).symm
  rw [h2]
  simp [Lib.indexByte]

theorem indexByte_lt (l : List UInt8) (c : UInt8) (h0 : 0 ≤ Lib.indexByte l c) : Lib.indexByte l c < (l.length : Int) := by
  induction l with
  | nil => simp [Lib.indexByte] at h0
  | cons b l ih =>
    unfold Lib.indexByte at h0 ⊢
    have hg := Lib.indexByte_ge l c
    by_cases h : (b == c) = true
    · rw [if_pos h]; simp only [List.length_cons]; omega
    · rw [if_neg h] at h0 ⊢
      by_cases h2 : (Lib.indexByte l c == -1) = true
      · rw [if_pos h2] at h0; omega
      · rw [if_neg h2] at h0 ⊢
        have h3 : Lib.indexByte l c ≠ -1 := fun h => h2 (beq_iff_eq.2 h)
        have := ih (by omega)
        simp only [List.length_cons]; omega

theorem ret_bool {a b : Bool} (h : a = b) : Ending.returned (.bool a) = .returned (.bool b) := by rw [h]
theorem ret_int {k : IntKind} {a b : Int} (h : a = b) : Ending.returned (.int k a) = .returned (.int k b) := by rw [h]

set_option maxHeartbeats 400000 in
/-- Index at a separator of one byte. -/
theorem lite_Index1 (s : ByteArray) (c : UInt8) (w : World) :
    Calls Tryd.prog 45 #[.string s, .string ⟨#[c]⟩] w fun e w' => e = .returned (.int .i64 (Lib.indexByte s.data.toList c)) ∧ w = w' := by
  go_enter Tryd.func45, Tryd.ntmps45
  go_wp2_with (go_at_call 44; refine (lite_IndexByte _ _ _).mono ?_; rintro e w' ⟨rfl, rfl⟩)
  · go_ret
    exact ⟨ret_int (indexByte_single s c (by assumption)).symm, rfl⟩
  · go_ret
    exact ⟨ret_int rfl, rfl⟩

/-- A text ahead of the first byte c; behind it; whether there is one. -/
def cutA (c : UInt8) (s : ByteArray) : ByteArray := if 0 ≤ Lib.indexByte s.data.toList c then s.extract 0 (Lib.indexByte s.data.toList c).toNat else s
def cutZ (c : UInt8) (s : ByteArray) : ByteArray := if 0 ≤ Lib.indexByte s.data.toList c then s.extract ((Lib.indexByte s.data.toList c).toNat + 1) s.size else ⟨#[]⟩
def cutT (c : UInt8) (s : ByteArray) : Bool := decide (0 ≤ Lib.indexByte s.data.toList c)

set_option maxHeartbeats 400000 in
theorem lite_Cut1 (s : ByteArray) (c : UInt8) (w : World) (hs : s.size ≤ maxLen) :
    Calls Tryd.prog 38 #[.string s, .string ⟨#[c]⟩] w fun e w' => e = .returned (.tuple #[.string (cutA c s), .string (cutZ c s), .bool (cutT c s)]) ∧ ∃ q, w' = w.drewN q := by
  unfold maxLen at hs
  have hi := fun W : World => lite_Index1 s c W
  have hlt := indexByte_lt s.data.toList c
  have hlen : s.data.toList.length = s.size := by simp
  rw [hlen] at hlt
  unfold cutA cutZ cutT
  generalize Lib.indexByte s.data.toList c = i at hi hlt ⊢
  clear hlen
  by_cases h0 : 0 ≤ i
  · obtain ⟨n, rfl⟩ := Int.eq_ofNat_of_zero_le h0
    rw [if_pos h0, if_pos h0, Int.toNat_natCast, decide_eq_true h0]
    have hn : n < s.size := by have := hlt h0; omega
    clear hlt h0
    go_enter Tryd.func38, Tryd.ntmps38
    go_wp2_with (go_at_call 45; refine (hi _).mono ?_; rintro e w' ⟨rfl, rfl⟩)
    have n1 : (0 : Int) ≤ (n : Int) := by omega
    have n2 : (n : Int) ≤ (s.size : Int) := by omega
    have n3 : (n : Int) + 1 ≤ (s.size : Int) := by omega
    go_quiet (fail)
    go_wp2
    go_ret3
    exact ⟨rfl, _, rfl⟩
  · rw [if_neg h0, if_neg h0, decide_eq_false h0]
    go_enter Tryd.func38, Tryd.ntmps38
    go_wp2_with (go_at_call 45; refine (hi _).mono ?_; rintro e w' ⟨rfl, rfl⟩)
    go_ret3
    exact ⟨rfl, 0, rfl⟩

set_option maxHeartbeats 400000 in
theorem strings_Cut1 (s : ByteArray) (c : UInt8) (w : World) (hs : s.size ≤ maxLen) :
    Calls Tryd.prog 20 #[.string s, .string ⟨#[c]⟩] w fun e w' => e = .returned (.tuple #[.string (cutA c s), .string (cutZ c s), .bool (cutT c s)]) ∧ ∃ q, w' = w.drewN q := by
  have hi := fun W : World => lite_Cut1 s c W hs
  clear hs
  generalize cutA c s = x1 at hi ⊢
  generalize cutZ c s = x2 at hi ⊢
  generalize cutT c s = x3 at hi ⊢
  go_enter Tryd.func20, Tryd.ntmps20
  go_wp2_with (go_at_call 38; refine (hi _).mono ?_; rintro e w' ⟨rfl, q, rfl⟩)
  go_ret3
  exact ⟨rfl, q, rfl⟩

def headB (c : UInt8) (s : ByteArray) : Bool := s.data.toList.head? == some c

theorem headB_long (s : ByteArray) (c : UInt8) (h : 1 ≤ s.size) : ((s.extract 0 1).toList == [c]) = headB c s := by
  rw [Lib.extract_toList]
  unfold headB
  have hl : 1 ≤ s.data.toList.length := by simpa using h
  generalize s.data.toList = l at hl ⊢
  cases l with
  | nil => simp at hl
  | cons b l => simp

theorem headB_short (s : ByteArray) (c : UInt8) (h : ¬ 1 ≤ s.size) : headB c s = false := by
  unfold headB
  have hl : s.data.toList.length = 0 := by have e : s.data.toList.length = s.size := by simp
                                           omega
  rw [List.length_eq_zero_iff.1 hl]
  rfl

set_option maxHeartbeats 400000 in
theorem lite_HasPrefix1 (s : ByteArray) (c : UInt8) (w : World) (hs : s.size ≤ maxLen) :
    Calls Tryd.prog 51 #[.string s, .string ⟨#[c]⟩] w fun e w' => e = .returned (.bool (headB c s)) ∧ w = w' := by
  unfold maxLen at hs
  by_cases h : 1 ≤ s.size
  · have H := Lib.hid (headB_long s c h)
    go_enter Tryd.func51, Tryd.ntmps51
    go_wp2
    go_ret
    exact ⟨ret_bool H.out, rfl⟩
  · rw [headB_short s c h]
    go_enter Tryd.func51, Tryd.ntmps51
    go_wp2
    go_ret
    exact ⟨rfl, rfl⟩

/-- What stands behind the prefix c, if it is there. -/
def prefA (c : UInt8) (s : ByteArray) : ByteArray := if headB c s then s.extract 1 s.size else s

set_option maxHeartbeats 400000 in
theorem lite_CutPrefix1 (s : ByteArray) (c : UInt8) (w : World) (hs : s.size ≤ maxLen) :
    Calls Tryd.prog 46 #[.string s, .string ⟨#[c]⟩] w fun e w' => e = .returned (.tuple #[.string (prefA c s), .bool (headB c s)]) ∧ w = w' := by
  have hi := fun W : World => lite_HasPrefix1 s c W hs
  unfold maxLen at hs
  unfold prefA
  have hshort := headB_short s c
  generalize headB c s = x1 at hi hshort ⊢
  cases x1
  · clear hshort
    go_enter Tryd.func46, Tryd.ntmps46
    go_wp2_with (go_at_call 51; refine (hi _).mono ?_; rintro e w' ⟨rfl, rfl⟩)
    go_ret2
    exact ⟨rfl, rfl⟩
  · have h1 : 1 ≤ s.size := by
      by_cases h : 1 ≤ s.size
      · exact h
      · exact absurd (hshort h) (by simp)
    clear hshort
    go_enter Tryd.func46, Tryd.ntmps46
    go_wp2_with (go_at_call 51; refine (hi _).mono ?_; rintro e w' ⟨rfl, rfl⟩)
    go_ret2
    exact ⟨rfl, rfl⟩

set_option maxHeartbeats 400000 in
theorem strings_CutPrefix1 (s : ByteArray) (c : UInt8) (w : World) (hs : s.size ≤ maxLen) :
    Calls Tryd.prog 40 #[.string s, .string ⟨#[c]⟩] w fun e w' => e = .returned (.tuple #[.string (prefA c s), .bool (headB c s)]) ∧ w = w' := by
  have hi := fun W : World => lite_CutPrefix1 s c W hs
  clear hs
  generalize prefA c s = x1 at hi ⊢
  generalize headB c s = x2 at hi ⊢
  go_enter Tryd.func40, Tryd.ntmps40
  go_wp2_with (go_at_call 46; refine (hi _).mono ?_; rintro e w' ⟨rfl, rfl⟩)
  go_ret2
  exact ⟨rfl, rfl⟩

end Go.Proofs.YtmohbbmokcnbhaaDoor
