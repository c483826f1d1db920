/-
  IdentIs: Check, and the document's Is and Word.
-/
import Derived.Test.YtmohbbmokcnbhaaDoorRef04
import Derived.Test.YtmohbbmokcnbhaaDoorIdentLaws
import Derived.Test.YtmohbbmokcnbhaaDoorErrIsFault
import Derived.Test.YtmohbbmokcnbhaaDoorErrAsFault
namespace Go.Proofs.YtmohbbmokcnbhaaDoor
open Go.RowKit
set_option maxRecDepth 100000
set_option linter.unusedVariables false
set_option linter.unusedSimpArgs false

theorem kind_of (s : ByteArray) : kindB s = 0 ∨ kindB s = 1 ∨ kindB s = 2 ∨ kindB s = 3 := by
  unfold kindB
  split
  · split
    · simp
    · split
      · simp
      · split <;> simp
  · simp

/-- A kind's word. -/
def wordB (k : Int) : ByteArray := if k = 1 then ⟨#[114, 111, 111, 109]⟩ else if k = 2 then ⟨#[117, 115, 101, 114]⟩ else if k = 3 then ⟨#[97, 108, 105, 97, 115]⟩ else if k = 4 then ⟨#[101, 118, 101, 110, 116]⟩ else if k = 5 then ⟨#[115, 101, 114, 118, 101, 114]⟩ else ⟨#[]⟩

set_option maxHeartbeats 1000000 in
theorem word_any (k : Int) (w : World) : Calls Tryd.prog 28 #[.int .i64 k] w fun e w' => e = .returned (.string (wordB k)) ∧ w = w' := by
  unfold wordB
  by_cases h1 : k = 1
  · subst h1
    go_enter Tryd.func28, Tryd.ntmps28
    go_wp2
    go_ret
    exact ⟨rfl, rfl⟩
  by_cases h2 : k = 2
  · subst h2
    go_enter Tryd.func28, Tryd.ntmps28
    go_wp2
    go_ret
    exact ⟨rfl, rfl⟩
  by_cases h3 : k = 3
  · subst h3
    go_enter Tryd.func28, Tryd.ntmps28
    go_wp2
    go_ret
    exact ⟨rfl, rfl⟩
  by_cases h4 : k = 4
  · subst h4
    go_enter Tryd.func28, Tryd.ntmps28
    go_wp2
    go_ret
    exact ⟨rfl, rfl⟩
  by_cases h5 : k = 5
  · subst h5
    go_enter Tryd.func28, Tryd.ntmps28
    go_wp2
    go_ret
    exact ⟨rfl, rfl⟩
  rw [if_neg h1, if_neg h2, if_neg h3, if_neg h4, if_neg h5]
  have e1 : (k == 1) = false := by rw [beq_eq_false_iff_ne]; exact h1
  have e2 : (k == 2) = false := by rw [beq_eq_false_iff_ne]; exact h2
  have e3 : (k == 3) = false := by rw [beq_eq_false_iff_ne]; exact h3
  have e4 : (k == 4) = false := by rw [beq_eq_false_iff_ne]; exact h4
  have e5 : (k == 5) = false := by rw [beq_eq_false_iff_ne]; exact h5
  clear h1 h2 h3 h4 h5
  go_enter Tryd.func28, Tryd.ntmps28
  go_wp2
  go_ret
  exact ⟨rfl, rfl⟩

theorem built_Fault (f : ByteArray) : Tryd.prog.built 45 [(1, .string f), (2, .iface 41 (.int .i64 7))] = some #[.int .i64 0, .string f, .iface 41 (.int .i64 7)] := by kernel_rfl

set_option maxHeartbeats 1000000 in
theorem check_yes (k : Int) (s : ByteArray) (w : World) (hs : s.size ≤ maxLen) (hb : isB k s = true) :
    Calls Tryd.prog 12 #[.int .i64 k, .string s] w fun e w' => e = .returned .nilIface ∧ Below w.heap.size w w' := by
  have h1 := is_any k s w hs
  rw [hb] at h1
  clear hs hb
  go_enter Tryd.func12, Tryd.ntmps12
  go_wp2_with fail
  refine h1.mono ?_
  rintro e w1 ⟨rfl, hb1⟩
  go_wp2_with fail
  go_ret
  exact ⟨rfl, hb1⟩
set_option maxHeartbeats 1000000 in
theorem check_no (k : Int) (s : ByteArray) (w : World) (hs : s.size ≤ maxLen) (hb : isB k s = false) :
    Calls Tryd.prog 12 #[.int .i64 k, .string s] w fun e w' => ∃ q, e = .returned (.iface 39 (.pointer (some ⟨q, 0, none⟩))) ∧ FaultAt w' q 0 (wordB k) (.iface 41 (.int .i64 7)) ∧ Below w.heap.size w w' ∧ w.heap.size ≤ q := by
  have h1 := is_any k s w hs
  rw [hb] at h1
  have h2 := fun W : World => word_any k W
  generalize wordB k = f at h2 ⊢
  clear hs hb
  go_enter Tryd.func12, Tryd.ntmps12
  go_wp2_with fail
  refine h1.mono ?_
  rintro e w1 ⟨rfl, hb1⟩
  clear h1
  go_wp2_with fail
  refine (h2 _).mono ?_
  rintro e w2 ⟨rfl, rfl⟩
  clear h2
  have hs1 := hb1.size
  have hb2 : Below w.heap.size w (w1.alloc (.cells #[.int .i64 0, .string f, .iface 41 (.int .i64 7)] 45)) := hb1.alloc hs1 _
  go_wp2_with (refine wpList_build_eq rfl 45 #[(1, .tmp 9), (2, .tmp 10)] rfl _ rfl _ (built_Fault f) ?_)
  go_ret
  exact ⟨_, rfl, heap_alloc_new _ _, hb2, hs1⟩

theorem event_of (s : ByteArray) (h17 : s.size = 17) : eventB s = (headB 36 s && allR (s.extract 1 s.size).data.toList 16 16 csHex.data.toList) := by
  unfold eventB
  rw [decide_eq_true h17, Bool.and_true]
  cases hh : headB 36 s with
  | false => rfl
  | true =>
    rw [Bool.true_and, Bool.true_and]
    have hp : (prefA 36 s).data.toList = (s.extract 1 s.size).data.toList := by
      unfold prefA
      rw [hh]
      rfl
    rw [hp]
    have hl : (s.extract 1 s.size).data.toList.length = 16 := by simp [h17]
    unfold allB allR
    rw [csHex_is, hl]
    cases hc : (s.extract 1 s.size).data.toList with
    | nil => rw [hc] at hl; simp at hl
    | cons a r => simp
theorem event_not (s : ByteArray) (h17 : s.size ≠ 17) : eventB s = false := by
  unfold eventB
  rw [decide_eq_false h17]
  simp

theorem wordAt1 (w : World) : (Instr.index 71 (.agg #[.string ⟨#[]⟩, .string ⟨#[114, 111, 111, 109]⟩, .string ⟨#[117, 115, 101, 114]⟩, .string ⟨#[97, 108, 105, 97, 115]⟩, .string ⟨#[101, 118, 101, 110, 116]⟩, .string ⟨#[115, 101, 114, 118, 101, 114]⟩]) (.int .i64 1)).run Tryd.prog w = .ok (.string ⟨#[114, 111, 111, 109]⟩) w := by kernel_rfl
theorem wordAt2 (w : World) : (Instr.index 71 (.agg #[.string ⟨#[]⟩, .string ⟨#[114, 111, 111, 109]⟩, .string ⟨#[117, 115, 101, 114]⟩, .string ⟨#[97, 108, 105, 97, 115]⟩, .string ⟨#[101, 118, 101, 110, 116]⟩, .string ⟨#[115, 101, 114, 118, 101, 114]⟩]) (.int .i64 2)).run Tryd.prog w = .ok (.string ⟨#[117, 115, 101, 114]⟩) w := by kernel_rfl
theorem wordAt3 (w : World) : (Instr.index 71 (.agg #[.string ⟨#[]⟩, .string ⟨#[114, 111, 111, 109]⟩, .string ⟨#[117, 115, 101, 114]⟩, .string ⟨#[97, 108, 105, 97, 115]⟩, .string ⟨#[101, 118, 101, 110, 116]⟩, .string ⟨#[115, 101, 114, 118, 101, 114]⟩]) (.int .i64 3)).run Tryd.prog w = .ok (.string ⟨#[97, 108, 105, 97, 115]⟩) w := by kernel_rfl
theorem wordAt4 (w : World) : (Instr.index 71 (.agg #[.string ⟨#[]⟩, .string ⟨#[114, 111, 111, 109]⟩, .string ⟨#[117, 115, 101, 114]⟩, .string ⟨#[97, 108, 105, 97, 115]⟩, .string ⟨#[101, 118, 101, 110, 116]⟩, .string ⟨#[115, 101, 114, 118, 101, 114]⟩]) (.int .i64 4)).run Tryd.prog w = .ok (.string ⟨#[101, 118, 101, 110, 116]⟩) w := by kernel_rfl
theorem wordAt5 (w : World) : (Instr.index 71 (.agg #[.string ⟨#[]⟩, .string ⟨#[114, 111, 111, 109]⟩, .string ⟨#[117, 115, 101, 114]⟩, .string ⟨#[97, 108, 105, 97, 115]⟩, .string ⟨#[101, 118, 101, 110, 116]⟩, .string ⟨#[115, 101, 114, 118, 101, 114]⟩]) (.int .i64 5)).run Tryd.prog w = .ok (.string ⟨#[115, 101, 114, 118, 101, 114]⟩) w := by kernel_rfl

set_option maxHeartbeats 4000000 in
theorem refIs_1 (s : ByteArray) (w : World) (hs : s.size ≤ 1000) :
    Calls Tryd.prog 13 #[.int .i64 1, .string s] w fun e w' => e = .returned (.bool (isB 1 s)) ∧ Below w.heap.size w w' := by
  have h1 := fun W : World => refSplit_any s W hs
  unfold refSplitV at h1
  have hv : isB 1 s = (okB s && (kindB s == 1)) := by unfold isB; rw [if_neg (by decide), if_neg (by decide)]
  rw [hv]
  clear hv hs
  cases hok : okB s with
  | true =>
    rw [hok] at h1
    clear hok
    generalize kindB s = kd at h1 ⊢
    generalize partB s = x1 at h1
    generalize hostB s = x2 at h1
    cases hkd : (kd == 1)
    all_goals
      go_enter Tryd.func13, Tryd.ntmps13
      go_wp2_with fail
      refine (h1 _).mono ?_
      rintro e w1 ⟨rfl, hb1⟩
      clear h1
      go_wp2_with fail
      go_ret
      exact ⟨rfl, hb1⟩
  | false =>
    rw [hok] at h1
    clear hok
    go_enter Tryd.func13, Tryd.ntmps13
    go_wp2_with fail
    refine (h1 _).mono ?_
    rintro e w1 ⟨rfl, hb1⟩
    clear h1
    go_wp2_with fail
    go_ret
    exact ⟨rfl, hb1⟩

set_option maxHeartbeats 4000000 in
theorem refIs_2 (s : ByteArray) (w : World) (hs : s.size ≤ 1000) :
    Calls Tryd.prog 13 #[.int .i64 2, .string s] w fun e w' => e = .returned (.bool (isB 2 s)) ∧ Below w.heap.size w w' := by
  have h1 := fun W : World => refSplit_any s W hs
  unfold refSplitV at h1
  have hv : isB 2 s = (okB s && (kindB s == 2)) := by unfold isB; rw [if_neg (by decide), if_neg (by decide)]
  rw [hv]
  clear hv hs
  cases hok : okB s with
  | true =>
    rw [hok] at h1
    clear hok
    generalize kindB s = kd at h1 ⊢
    generalize partB s = x1 at h1
    generalize hostB s = x2 at h1
    cases hkd : (kd == 2)
    all_goals
      go_enter Tryd.func13, Tryd.ntmps13
      go_wp2_with fail
      refine (h1 _).mono ?_
      rintro e w1 ⟨rfl, hb1⟩
      clear h1
      go_wp2_with fail
      go_ret
      exact ⟨rfl, hb1⟩
  | false =>
    rw [hok] at h1
    clear hok
    go_enter Tryd.func13, Tryd.ntmps13
    go_wp2_with fail
    refine (h1 _).mono ?_
    rintro e w1 ⟨rfl, hb1⟩
    clear h1
    go_wp2_with fail
    go_ret
    exact ⟨rfl, hb1⟩

set_option maxHeartbeats 4000000 in
theorem refIs_3 (s : ByteArray) (w : World) (hs : s.size ≤ 1000) :
    Calls Tryd.prog 13 #[.int .i64 3, .string s] w fun e w' => e = .returned (.bool (isB 3 s)) ∧ Below w.heap.size w w' := by
  have h1 := fun W : World => refSplit_any s W hs
  unfold refSplitV at h1
  have hv : isB 3 s = (okB s && (kindB s == 3)) := by unfold isB; rw [if_neg (by decide), if_neg (by decide)]
  rw [hv]
  clear hv hs
  cases hok : okB s with
  | true =>
    rw [hok] at h1
    clear hok
    generalize kindB s = kd at h1 ⊢
    generalize partB s = x1 at h1
    generalize hostB s = x2 at h1
    cases hkd : (kd == 3)
    all_goals
      go_enter Tryd.func13, Tryd.ntmps13
      go_wp2_with fail
      refine (h1 _).mono ?_
      rintro e w1 ⟨rfl, hb1⟩
      clear h1
      go_wp2_with fail
      go_ret
      exact ⟨rfl, hb1⟩
  | false =>
    rw [hok] at h1
    clear hok
    go_enter Tryd.func13, Tryd.ntmps13
    go_wp2_with fail
    refine (h1 _).mono ?_
    rintro e w1 ⟨rfl, hb1⟩
    clear h1
    go_wp2_with fail
    go_ret
    exact ⟨rfl, hb1⟩

set_option maxHeartbeats 4000000 in
theorem refIs_4 (s : ByteArray) (w : World) (hs : s.size ≤ 1000) :
    Calls Tryd.prog 13 #[.int .i64 4, .string s] w fun e w' => e = .returned (.bool (isB 4 s)) ∧ Below w.heap.size w w' := by
  have hv : isB 4 s = eventB s := by unfold isB; rw [if_pos rfl]
  rw [hv]
  clear hv
  by_cases h17 : s.size = 17
  · have he := event_of s h17
    have hpos : 0 < s.size := by omega
    have ha := fun W : World => all_ref (s.extract 1 s.size) 16 16 csHex W (by simp only [ByteArray.size_extract]; omega) (by decide)
    have hh : headB 36 s = (((s[0].toNat : Nat) : Int) == 36) := by
      have e : s.data.toList.head? = some s[0] := by
        rw [List.head?_eq_getElem?, List.getElem?_eq_getElem (by simpa using hpos)]
        rfl
      unfold headB
      rw [e]
      have := toNat_beq s[0] 36
      rw [show (((36 : UInt8).toNat : Nat) : Int) = 36 from rfl] at this
      rw [this]
      rfl
    rw [he, hh]
    simp only [h17] at ha ⊢
    generalize allR (s.extract 1 17).data.toList 16 16 csHex.data.toList = b at ha ⊢
    clear he hh hs
    cases h36 : (((s[0].toNat : Nat) : Int) == 36)
    · go_enter Tryd.func13, Tryd.ntmps13
      go_wp2_with fail
      go_ret
      exact ⟨rfl, Below.refl _ _⟩
    · go_enter Tryd.func13, Tryd.ntmps13
      go_wp2_with fail
      refine (ha _).mono ?_
      rintro e w1 ⟨rfl, rfl⟩
      clear ha
      go_wp2_with fail
      go_ret
      exact ⟨by simp, Below.refl _ _⟩
  · rw [event_not s h17]
    have h17' : ((s.size : Int) == 17) = false := by rw [beq_eq_false_iff_ne]; omega
    clear hs
    go_enter Tryd.func13, Tryd.ntmps13
    go_wp2_with fail
    go_ret
    exact ⟨rfl, Below.refl _ _⟩

set_option maxHeartbeats 4000000 in
theorem refIs_5 (s : ByteArray) (w : World) (hs : s.size ≤ 1000) :
    Calls Tryd.prog 13 #[.int .i64 5, .string s] w fun e w' => e = .returned (.bool (isB 5 s)) ∧ Below w.heap.size w w' := by
  have hv : isB 5 s = serverB s := by unfold isB; rw [if_neg (by decide), if_pos rfl]
  rw [hv]
  have h1 := isServer_any s w hs
  generalize serverB s = b at h1 ⊢
  clear hv hs
  go_enter Tryd.func13, Tryd.ntmps13
  go_wp2_with fail
  refine h1.mono ?_
  rintro e w1 ⟨rfl, hb1⟩
  go_wp2_with fail
  go_ret
  exact ⟨rfl, hb1⟩

set_option maxHeartbeats 4000000 in
theorem refIs_else (k : Int) (s : ByteArray) (w : World) (hs : s.size ≤ 1000) (h1 : ¬ k = 1) (h2 : ¬ k = 2) (h3 : ¬ k = 3) (h4 : ¬ k = 4) (h5 : ¬ k = 5) :
    Calls Tryd.prog 13 #[.int .i64 k, .string s] w fun e w' => e = .returned (.bool (isB k s)) ∧ Below w.heap.size w w' := by
  have hv : isB k s = false := by
    unfold isB
    rw [if_neg h4, if_neg h5]
    cases hok : okB s with
    | false => rfl
    | true =>
      have hk := kind_of s
      have : (kindB s == k) = false := by rw [beq_eq_false_iff_ne]; unfold okB at hok; simp only [Bool.and_eq_true, decide_eq_true_eq] at hok; have := hok.1; omega
      rw [this]
      rfl
  rw [hv]
  have e1 : (k == 1) = false := by rw [beq_eq_false_iff_ne]; exact h1
  have e2 : (k == 2) = false := by rw [beq_eq_false_iff_ne]; exact h2
  have e3 : (k == 3) = false := by rw [beq_eq_false_iff_ne]; exact h3
  have e4 : (k == 4) = false := by rw [beq_eq_false_iff_ne]; exact h4
  have e5 : (k == 5) = false := by rw [beq_eq_false_iff_ne]; exact h5
  clear h1 h2 h3 h4 h5 hv hs
  go_enter Tryd.func13, Tryd.ntmps13
  go_wp2_with fail
  go_ret
  exact ⟨rfl, Below.refl _ _⟩

theorem refIs_any (k : Int) (s : ByteArray) (w : World) (hs : s.size ≤ 1000) :
    Calls Tryd.prog 13 #[.int .i64 k, .string s] w fun e w' => e = .returned (.bool (isB k s)) ∧ Below w.heap.size w w' := by
  by_cases h1 : k = 1
  · subst h1; exact refIs_1 s w hs
  by_cases h2 : k = 2
  · subst h2; exact refIs_2 s w hs
  by_cases h3 : k = 3
  · subst h3; exact refIs_3 s w hs
  by_cases h4 : k = 4
  · subst h4; exact refIs_4 s w hs
  by_cases h5 : k = 5
  · subst h5; exact refIs_5 s w hs
  exact refIs_else k s w hs h1 h2 h3 h4 h5

set_option maxHeartbeats 4000000 in
theorem refWord_any (k : Int) (w : World) : Calls Tryd.prog 16 #[.int .i64 k] w fun e w' => e = .returned (.string (wordB k)) ∧ w = w' := by
  by_cases h1 : k = 1
  · subst h1
    have hx := wordAt1
    go_enter Tryd.func16, Tryd.ntmps16
    go_wp2
    go_ret
    exact ⟨rfl, rfl⟩
  by_cases h2 : k = 2
  · subst h2
    have hx := wordAt2
    go_enter Tryd.func16, Tryd.ntmps16
    go_wp2
    go_ret
    exact ⟨rfl, rfl⟩
  by_cases h3 : k = 3
  · subst h3
    have hx := wordAt3
    go_enter Tryd.func16, Tryd.ntmps16
    go_wp2
    go_ret
    exact ⟨rfl, rfl⟩
  by_cases h4 : k = 4
  · subst h4
    have hx := wordAt4
    go_enter Tryd.func16, Tryd.ntmps16
    go_wp2
    go_ret
    exact ⟨rfl, rfl⟩
  by_cases h5 : k = 5
  · subst h5
    have hx := wordAt5
    go_enter Tryd.func16, Tryd.ntmps16
    go_wp2
    go_ret
    exact ⟨rfl, rfl⟩
  unfold wordB
  rw [if_neg h1, if_neg h2, if_neg h3, if_neg h4, if_neg h5]
  by_cases hlt : k < 1
  · go_enter Tryd.func16, Tryd.ntmps16
    go_wp2
    go_ret
    exact ⟨rfl, rfl⟩
  · have hgt : 5 < k := by omega
    go_enter Tryd.func16, Tryd.ntmps16
    go_wp2
    go_ret
    exact ⟨rfl, rfl⟩

end Go.Proofs.YtmohbbmokcnbhaaDoor
