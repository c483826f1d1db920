/-
  The law IdentOne: no text is a name of two kinds (for every text).
-/
import Derived.Test.YtmohbbmokcnbhaaIdentLaws
import Derived.Test.YtmohbbmokcnbhaaCommon
namespace Go.Proofs.Ytmohbbmokcnbhaa
open Go.ChangeShapes Go.WideShapes Go.ChangeAt Go.RowKit
open Go.ChangeMaps (open_string shut_string)

/-! ### The plain law -/
theorem okB_kind {s : ByteArray} (h : okB s = true) : kindB s ≠ 0 := by
  unfold okB at h
  simp only [Bool.and_eq_true] at h
  exact of_decide_eq_true h.1

theorem head_of_cutA (c : UInt8) (s : ByteArray) (h : (cutA c s).data.toList ≠ []) : s.data.toList.head? = (cutA c s).data.toList.head? := by
  unfold cutA at h ⊢
  split
  · rename_i h0
    rw [if_pos h0, Lib.extract_data] at h
    rw [Lib.extract_data]
    simp only [List.drop_zero, Nat.sub_zero] at h ⊢
    generalize (Lib.indexByte s.data.toList c).toNat = n at h ⊢
    cases n with
    | zero => simp at h
    | succ n => cases s.data.toList <;> simp
  · rfl

theorem server_head {s : ByteArray} (h : serverB s = true) : ∃ c, s.data.toList.head? = some c ∧ withB [46, 45] plainB c = true := by
  unfold serverB allB at h
  simp only [Bool.and_eq_true] at h
  obtain ⟨⟨⟨ha, hn⟩, _⟩, _⟩ := h
  have hne : (cutA 58 s).data.toList ≠ [] := by
    intro e
    rw [e] at hn
    simp at hn
  have hh := head_of_cutA 58 s hne
  cases hl : (cutA 58 s).data.toList with
  | nil => exact absurd hl hne
  | cons c l =>
    rw [hl] at hh ha
    rw [List.all_cons, Bool.and_eq_true] at ha
    exact ⟨c, hh, ha.1⟩

theorem event_head {s : ByteArray} (h : eventB s = true) : s.data.toList.head? = some 36 := by
  unfold eventB headB at h
  simp only [Bool.and_eq_true] at h
  simpa using h.1.1

theorem kind_head {s : ByteArray} (h : kindB s ≠ 0) : ∃ c, s.data.toList.head? = some c ∧ (c = 33 ∨ c = 64 ∨ c = 35) := by
  unfold kindB at h
  split at h
  · rename_i c hc
    refine ⟨c, hc, ?_⟩
    by_cases h1 : c.toNat = 33
    · exact .inl (UInt8.toNat_inj.1 h1)
    · by_cases h2 : c.toNat = 64
      · exact .inr (.inl (UInt8.toNat_inj.1 h2))
      · by_cases h3 : c.toNat = 35
        · exact .inr (.inr (UInt8.toNat_inj.1 h3))
        · simp [h1, h2, h3] at h
  · exact absurd rfl h

theorem no_server_event {s : ByteArray} (h : eventB s = true) : serverB s = false := by
  cases hs : serverB s with
  | false => rfl
  | true =>
    obtain ⟨c, h1, h2⟩ := server_head hs
    rw [event_head h] at h1
    injection h1 with h1
    subst h1
    exact absurd h2 (by decide)

theorem no_ok_event {s : ByteArray} (h : eventB s = true) : okB s = false := by
  cases hs : okB s with
  | false => rfl
  | true =>
    obtain ⟨c, h1, h2⟩ := kind_head (okB_kind hs)
    rw [event_head h] at h1
    injection h1 with h1
    subst h1
    rcases h2 with h2 | h2 | h2 <;> exact absurd h2 (by decide)

theorem no_ok_server {s : ByteArray} (h : serverB s = true) : okB s = false := by
  cases hs : okB s with
  | false => rfl
  | true =>
    obtain ⟨c, h1, h2⟩ := kind_head (okB_kind hs)
    obtain ⟨c', h3, h4⟩ := server_head h
    rw [h1] at h3
    injection h3 with h3
    subst h3
    rcases h2 with rfl | rfl | rfl <;> exact absurd h4 (by decide)

def cnt (b : Bool) : Int := if b then 1 else 0
/-- How many of the kinds from 1 to k a text is a name of. -/
def kinds (s : ByteArray) : Nat → Int
  | 0 => 0
  | k + 1 => kinds s k + cnt (isB (k + 1 : Nat) s)

theorem kinds_bd (s : ByteArray) (k : Nat) : 0 ≤ kinds s k ∧ kinds s k ≤ k := by
  induction k with
  | zero => exact ⟨Int.le_refl _, Int.le_refl _⟩
  | succ k ih =>
    unfold kinds cnt
    split <;> omega

theorem kinds_one (s : ByteArray) : kinds s 5 ≤ 1 := by
  have e1 : isB ((0 + 1 : Nat) : Int) s = (okB s && (kindB s == 1)) := by simp [isB]
  have e2 : isB ((1 + 1 : Nat) : Int) s = (okB s && (kindB s == 2)) := by simp [isB]
  have e3 : isB ((2 + 1 : Nat) : Int) s = (okB s && (kindB s == 3)) := by simp [isB]
  have e4 : isB ((3 + 1 : Nat) : Int) s = eventB s := by simp [isB]
  have e5 : isB ((4 + 1 : Nat) : Int) s = serverB s := by simp [isB]
  simp only [kinds]
  rw [e1, e2, e3, e4, e5]
  clear e1 e2 e3 e4 e5
  cases he : eventB s with
  | true =>
    rw [no_server_event he, no_ok_event he]
    simp [cnt]
  | false =>
    cases hs : serverB s with
    | true =>
      rw [no_ok_server hs]
      simp [cnt]
    | false =>
      unfold cnt
      cases okB s
      · simp
      · by_cases h1 : kindB s = 1
        · simp [h1]
        · by_cases h2 : kindB s = 2
          · simp [h2]
          · by_cases h3 : kindB s = 3 <;> simp [h1, h2, h3]

/-! ### The walk -/
set_option maxHeartbeats 1000000 in
theorem identOne_walk (s : ByteArray) (hs : s.size ≤ maxLen) (w : World) :
    Calls Try.prog 3 #[.string s] w fun e w' => e = .returned (.bool true) ∧ Below w.heap.size w w' := by
  by_cases hlong : 300 < s.size
  · have hs2 := hs
    unfold maxLen at hs2
    go_enter Try.func3, Try.ntmps3
    go_wp2_with fail
    refine (awake4_any _).mono ?_
    rintro e w1 ⟨rfl, hb1⟩
    go_wp2_with fail
    refine (awake4_any _).mono ?_
    rintro e w2 ⟨rfl, hb2⟩
    go_wp2_with fail
    go_ret
    exact ⟨rfl, hb1.trans (hb2.mono hb1.size)⟩
  · have hone := kinds_one s
    go_enter Try.func3, Try.ntmps3
    go_wp2_with fail
    refine (awake4_any _).mono ?_
    rintro e w1 ⟨rfl, hb1⟩
    go_wp2_with fail
    go_loopw [3, 4] (fun n k wr => ∃ j : Nat, j ≤ 5 ∧ k = .int .i64 (j + 1 : Nat) ∧ n = .int .i64 (kinds s j) ∧ Below w.heap.size w wr) (fun _ k _ => 6 - (intOf k).toNat)
    case atStart => exact ⟨0, by omega, rfl, rfl, hb1⟩
    case round =>
      obtain ⟨j, hj, rfl, rfl, hb⟩ := hrel
      have hbd := kinds_bd s j
      by_cases hlt : j < 5
      · have hi := fun W : World => is_any ((j + 1 : Nat) : Int) s W hs
        have hsn : kinds s (j + 1) = kinds s j + cnt (isB ((j + 1 : Nat) : Int) s) := rfl
        have H := Lib.hid hsn
        clear hsn
        cases hb2 : isB ((j + 1 : Nat) : Int) s
        all_goals
          have HB := Lib.hid hb2
          rw [hb2] at hi
          clear hb2
          simp only [Int.natCast_add, Int.natCast_one] at hi
          go_wp2_with (go_at_call 6; refine (hi _).mono ?_; rintro e w2 ⟨rfl, hb3⟩)
          go_roundw
          case rel => exact ⟨j + 1, by omega, by go_num, by rw [H.out, HB.out]; simp [cnt], hb.trans (hb3.mono hb.size)⟩
          case measure => simp [intOf]; omega
      · obtain rfl : j = 5 := by omega
        go_wp2
        go_ret
        exact ⟨rfl, hb⟩

end Go.Proofs.Ytmohbbmokcnbhaa
