/-
  The law IdentMade: of parts that may be, put together, there is a name, as long as the parts aren't too long.
-/
import Derived.Test.YtmohbbmokcnbhaaIdentLaws
import Derived.Test.YtmohbbmokcnbhaaCommon
import Derived.Test.YtmohbbmokcnbhaaDigits
namespace Go.Proofs.Ytmohbbmokcnbhaa
open Go.RowKit

/-! ### The plain law -/
def partC (i : Nat) : UInt8 := if i % 5 = 0 then 97 else if i % 5 = 1 then 48 else if i % 5 = 2 then 46 else if i % 5 = 3 then 122 else 45
def hostC (i : Nat) : UInt8 := if i % 4 = 0 then 120 else if i % 4 = 1 then 57 else if i % 4 = 2 then 46 else 45
def partL (n : Nat) : List UInt8 := (List.range n).map partC
def hostL (n : Nat) : List UInt8 := (List.range n).map hostC
def headC (k : Nat) : UInt8 := if k = 0 then 33 else if k = 1 then 64 else 35
def portL (p : Nat) : List UInt8 := if 0 < p then 58 :: Lib.decDigits p else []
def madeL (k n m p : Nat) : List UInt8 := headC k :: (partL n ++ 58 :: (hostL m ++ portL p))
def mayB (n m p : Nat) : Bool := decide (1 ≤ n) && decide (n ≤ 50) && decide (1 ≤ m) && decide (m ≤ 50) && (p == 0 || decide ((Lib.decDigits p).length ≤ 5))

theorem partL_succ (n : Nat) : partL (n + 1) = partL n ++ [partC n] := by simp [partL, List.range_succ]
theorem hostL_succ (n : Nat) : hostL (n + 1) = hostL n ++ [hostC n] := by simp [hostL, List.range_succ]

theorem partC_is (i : Nat) : partC i = 97 ∨ partC i = 48 ∨ partC i = 46 ∨ partC i = 122 ∨ partC i = 45 := by
  unfold partC
  repeat' split
  all_goals simp
theorem hostC_is (i : Nat) : hostC i = 120 ∨ hostC i = 57 ∨ hostC i = 46 ∨ hostC i = 45 := by
  unfold hostC
  repeat' split
  all_goals simp

theorem all_partL (n : Nat) (p : UInt8 → Bool) (h : (p 97 && p 48 && p 46 && p 122 && p 45) = true) : (partL n).all p = true := by
  simp only [Bool.and_eq_true] at h
  rw [List.all_eq_true]
  intro x hx
  simp only [partL, List.mem_map] at hx
  obtain ⟨i, _, rfl⟩ := hx
  obtain ⟨⟨⟨⟨h1, h2⟩, h3⟩, h4⟩, h5⟩ := h
  rcases partC_is i with e | e | e | e | e <;> rw [e] <;> assumption
theorem all_hostL (n : Nat) (p : UInt8 → Bool) (h : (p 120 && p 57 && p 46 && p 45) = true) : (hostL n).all p = true := by
  simp only [Bool.and_eq_true] at h
  rw [List.all_eq_true]
  intro x hx
  simp only [hostL, List.mem_map] at hx
  obtain ⟨i, _, rfl⟩ := hx
  obtain ⟨⟨⟨h1, h2⟩, h3⟩, h4⟩ := h
  rcases hostC_is i with e | e | e | e <;> rw [e] <;> assumption

theorem index_at (l r : List UInt8) (c : UInt8) (h : l.all (fun x => x != c) = true) : Lib.indexByte (l ++ c :: r) c = l.length := by
  induction l with
  | nil => simp [Lib.indexByte]
  | cons b l ih =>
    rw [List.all_cons, Bool.and_eq_true] at h
    have hb : (b == c) = false := by simpa using h.1
    rw [List.cons_append]
    unfold Lib.indexByte
    rw [ih h.2, hb]
    have : ((l.length : Int) == -1) = false := by rw [beq_eq_false_iff_ne]; omega
    simp [this]
theorem index_none (l : List UInt8) (c : UInt8) (h : l.all (fun x => x != c) = true) : Lib.indexByte l c = -1 := by
  induction l with
  | nil => rfl
  | cons b l ih =>
    rw [List.all_cons, Bool.and_eq_true] at h
    have hb : (b == c) = false := by simpa using h.1
    unfold Lib.indexByte
    rw [ih h.2, hb]
    rfl

theorem cut_at (l r : List UInt8) (c : UInt8) (s : ByteArray) (hs : s.data.toList = l ++ c :: r) (h : l.all (fun x => x != c) = true) :
    (cutA c s).data.toList = l ∧ (cutZ c s).data.toList = r ∧ cutT c s = true := by
  have hi := index_at l r c h
  unfold cutA cutZ cutT
  have hlen : s.size = l.length + 1 + r.length := by
    have e : s.data.toList.length = s.size := by simp
    rw [← e, hs]; simp; omega
  rw [hs, hi, if_pos (by omega), if_pos (by omega)]
  refine ⟨?_, ?_, by simp⟩
  · rw [Lib.extract_data, hs]; simp
  · rw [Lib.extract_data, hs, hlen]
    simp only [Int.toNat_natCast]
    rw [show l ++ c :: r = (l ++ [c]) ++ r by simp, List.drop_left' (by simp), List.take_of_length_le (by omega)]
theorem cut_none (c : UInt8) (s : ByteArray) (h : s.data.toList.all (fun x => x != c) = true) : cutA c s = s ∧ cutT c s = false := by
  have hi := index_none _ c h
  unfold cutA cutT
  rw [hi]
  exact ⟨rfl, rfl⟩

theorem all_dec (p : Nat) : (Lib.decDigits p).all (fun c => decide (48 ≤ c.toNat) && decide (c.toNat ≤ 57)) = true := by
  induction p using Nat.strongRecOn with
  | ind p ih =>
    by_cases h : p < 10
    · rw [Lib.decDigits_one h]
      have : p = 0 ∨ p = 1 ∨ p = 2 ∨ p = 3 ∨ p = 4 ∨ p = 5 ∨ p = 6 ∨ p = 7 ∨ p = 8 ∨ p = 9 := by omega
      rcases this with rfl | rfl | rfl | rfl | rfl | rfl | rfl | rfl | rfl | rfl <;> decide
    · rw [decDigits_step p h, List.all_append, ih (p / 10) (by omega)]
      have : p % 10 = 0 ∨ p % 10 = 1 ∨ p % 10 = 2 ∨ p % 10 = 3 ∨ p % 10 = 4 ∨ p % 10 = 5 ∨ p % 10 = 6 ∨ p % 10 = 7 ∨ p % 10 = 8 ∨ p % 10 = 9 := by omega
      rcases this with e | e | e | e | e | e | e | e | e | e <;> rw [e] <;> decide
theorem dec_ne (p : Nat) : (Lib.decDigits p).isEmpty = false := by
  by_cases h : p < 10
  · rw [Lib.decDigits_one h]; rfl
  · rw [decDigits_step p h]; simp

theorem allB_of (l : List UInt8) (most : Int) (p : UInt8 → Bool) (h : l.all p = true) : allB l most p = (!l.isEmpty && decide ((l.length : Int) ≤ most)) := by
  unfold allB; rw [h, Bool.true_and]

theorem len_partL (n : Nat) : (partL n).length = n := by simp [partL]
theorem len_hostL (n : Nat) : (hostL n).length = n := by simp [hostL]
theorem emp_partL (n : Nat) : (partL n).isEmpty = !decide (1 ≤ n) := by
  cases n with
  | zero => rfl
  | succ n => rw [partL_succ]; simp
theorem emp_hostL (n : Nat) : (hostL n).isEmpty = !decide (1 ≤ n) := by
  cases n with
  | zero => rfl
  | succ n => rw [hostL_succ]; simp

theorem server_made (m p : Nat) (s : ByteArray) (hs : s.data.toList = hostL m ++ portL p) :
    serverB s = (decide (1 ≤ m) && decide (m ≤ 50) && (p == 0 || decide ((Lib.decDigits p).length ≤ 5))) := by
  have hno : (hostL m).all (fun x => x != 58) = true := all_hostL m _ (by decide)
  have hfit : (hostL m).all (withB [46, 45] plainB) = true := all_hostL m _ (by decide)
  unfold serverB
  by_cases h0 : 0 < p
  · unfold portL at hs
    rw [if_pos h0] at hs
    obtain ⟨h1, h2, h3⟩ := cut_at _ _ 58 s hs hno
    have hd : (Lib.decDigits p).all digitB = true := all_dec p
    rw [h1, h2, h3, allB_of _ _ _ hfit, allB_of _ _ _ hd, emp_hostL, len_hostL, dec_ne]
    have e : (p == 0) = false := by rw [beq_eq_false_iff_ne]; omega
    rw [e]
    simp [Bool.and_assoc]
    rw [Bool.eq_iff_iff]
    simp
    omega
  · unfold portL at hs
    rw [if_neg h0, List.append_nil] at hs
    obtain ⟨h1, h3⟩ := cut_none 58 s (by rw [hs]; exact hno)
    rw [h1, h3, hs, allB_of _ _ _ hfit, emp_hostL, len_hostL]
    have e : p = 0 := by omega
    subst e
    rw [Bool.eq_iff_iff]
    simp
    omega

theorem made_is (k n m p : Nat) (hk : k < 3) (s : ByteArray) (hs : s.data.toList = madeL k n m p) : isB ((k : Int) + 1) s = mayB n m p := by
  have hsz : s.size = 1 + (partL n ++ 58 :: (hostL m ++ portL p)).length := by
    have e : s.data.toList.length = s.size := by simp
    rw [← e, hs]; simp [madeL]; omega
  have hkind : kindB s = (k : Int) + 1 := by
    unfold kindB
    rw [hs]
    have : k = 0 ∨ k = 1 ∨ k = 2 := by omega
    rcases this with rfl | rfl | rfl <;> rfl
  have htail : (s.extract 1 s.size).data.toList = partL n ++ 58 :: (hostL m ++ portL p) := by
    rw [Lib.extract_data, hs]
    unfold madeL
    rw [List.drop_succ_cons, List.drop_zero, List.take_of_length_le (by omega)]
  have hno : (partL n).all (fun x => x != 58) = true := all_partL n _ (by decide)
  obtain ⟨h1, h2, h3⟩ := cut_at _ _ 58 _ htail hno
  have hfit : (partL n).all (fitB ((k : Int) + 1)) = true := by
    refine all_partL n _ ?_
    have : k = 0 ∨ k = 1 ∨ k = 2 := by omega
    rcases this with rfl | rfl | rfl <;> decide
  have hsrv := server_made m p (hostB s) h2
  have hok : okB s = mayB n m p := by
    unfold okB
    rw [hkind, hsrv, allB_of]
    · unfold twoB partB
      rw [h3, h1, emp_partL, len_partL]
      unfold mayB
      have e : decide ((k : Int) + 1 ≠ 0) = true := by simp; omega
      rw [e, Bool.eq_iff_iff]
      simp
      omega
    · unfold partB
      rw [h1]
      exact hfit
  unfold isB
  rw [if_neg (by omega), if_neg (by omega), hok, hkind]
  simp

/-! ### The walk -/
theorem part_piece (i : Nat) : ((⟨#[97, 48, 46, 122, 45]⟩ : ByteArray).extract (i % 5) (i % 5 + 1)).data.toList = [partC i] := by
  rw [Lib.extract_data]
  have : i % 5 = 0 ∨ i % 5 = 1 ∨ i % 5 = 2 ∨ i % 5 = 3 ∨ i % 5 = 4 := by omega
  rcases this with e | e | e | e | e <;> simp [partC, e]
theorem host_piece (i : Nat) : ((⟨#[120, 57, 46, 45]⟩ : ByteArray).extract (i % 4) (i % 4 + 1)).data.toList = [hostC i] := by
  rw [Lib.extract_data]
  have : i % 4 = 0 ∨ i % 4 = 1 ∨ i % 4 = 2 ∨ i % 4 = 3 := by omega
  rcases this with e | e | e | e <;> simp [hostC, e]

theorem idx0 (w : World) : (Instr.index 28 (.agg #[.string ⟨#[33]⟩, .string ⟨#[64]⟩, .string ⟨#[35]⟩]) (.int .i64 0)).run Try.prog w = .ok (.string ⟨#[33]⟩) w := by kernel_rfl
theorem idx1 (w : World) : (Instr.index 28 (.agg #[.string ⟨#[33]⟩, .string ⟨#[64]⟩, .string ⟨#[35]⟩]) (.int .i64 1)).run Try.prog w = .ok (.string ⟨#[64]⟩) w := by kernel_rfl
theorem idx2 (w : World) : (Instr.index 28 (.agg #[.string ⟨#[33]⟩, .string ⟨#[64]⟩, .string ⟨#[35]⟩]) (.int .i64 2)).run Try.prog w = .ok (.string ⟨#[35]⟩) w := by kernel_rfl
theorem idk0 (w : World) : (Instr.index 30 (.agg #[.int .i64 1, .int .i64 2, .int .i64 3]) (.int .i64 0)).run Try.prog w = .ok (.int .i64 1) w := by kernel_rfl
theorem idk1 (w : World) : (Instr.index 30 (.agg #[.int .i64 1, .int .i64 2, .int .i64 3]) (.int .i64 1)).run Try.prog w = .ok (.int .i64 2) w := by kernel_rfl
theorem idk2 (w : World) : (Instr.index 30 (.agg #[.int .i64 1, .int .i64 2, .int .i64 3]) (.int .i64 2)).run Try.prog w = .ok (.int .i64 3) w := by kernel_rfl

set_option maxHeartbeats 4000000 in
theorem identMade_walk (a b c : Nat) (p : Nat) (ha : a < 256) (hb : b < 256) (hc : c < 256) (hp : p < 4294967296) (w : World) :
    Calls Try.prog 4 #[.agg #[.int .u8 a, .int .u8 b, .int .u8 c], .int .u32 p] w fun e w' => e = .returned (.bool true) ∧ Below w.heap.size w w' := by
  have j0 : ∀ w : World, (Instr.index 28 (.agg #[.string ⟨#[33]⟩, .string ⟨#[64]⟩, .string ⟨#[35]⟩]) (.int .i64 ((a : Int) % 3))).run Try.prog w = .ok (.string ⟨#[headC (a % 3)]⟩) w := by
    intro w
    have : ((a : Int) % 3 = 0 ∧ a % 3 = 0) ∨ ((a : Int) % 3 = 1 ∧ a % 3 = 1) ∨ ((a : Int) % 3 = 2 ∧ a % 3 = 2) := by omega
    rcases this with ⟨e, e2⟩ | ⟨e, e2⟩ | ⟨e, e2⟩ <;> rw [e, e2]
    · exact idx0 w
    · exact idx1 w
    · exact idx2 w
  have j1 : ∀ w : World, (Instr.index 30 (.agg #[.int .i64 1, .int .i64 2, .int .i64 3]) (.int .i64 ((a : Int) % 3))).run Try.prog w = .ok (.int .i64 (((a % 3 : Nat) : Int) + 1)) w := by
    intro w
    have : ((a : Int) % 3 = 0 ∧ a % 3 = 0) ∨ ((a : Int) % 3 = 1 ∧ a % 3 = 1) ∨ ((a : Int) % 3 = 2 ∧ a % 3 = 2) := by omega
    rcases this with ⟨e, e2⟩ | ⟨e, e2⟩ | ⟨e, e2⟩ <;> rw [e, e2]
    · exact idk0 w
    · exact idk1 w
    · exact idk2 w
  have hx0 : (⟨#[headC (a % 3)]⟩ : ByteArray).data.toList = headC (a % 3) :: partL 0 := rfl
  have hx0s : (⟨#[headC (a % 3)]⟩ : ByteArray).size = 1 := rfl
  have hk3 : a % 3 < 3 := by omega
  generalize (⟨#[headC (a % 3)]⟩ : ByteArray) = X0 at j0 hx0 hx0s
  have Hx0 := Lib.hid hx0
  have Hx0s := Lib.hid hx0s
  clear hx0 hx0s
  have hdig := fun W : World => digits_any p W (by omega)
  have hdl := decDigits_len 19 p (by have : (10 : Nat) ^ (19 + 1) = 100000000000000000000 := by decide
                                     omega)
  have hD : (⟨(Lib.decDigits p).toArray⟩ : ByteArray).data.toList = Lib.decDigits p := by simp
  have hDs : (⟨(Lib.decDigits p).toArray⟩ : ByteArray).size = (Lib.decDigits p).length := by simp [ByteArray.size]
  generalize (⟨(Lib.decDigits p).toArray⟩ : ByteArray) = D at hdig hD hDs
  have HD := Lib.hid hD
  clear hD
  have hds : D.size ≤ 20 := by omega
  have HDs := Lib.hid hDs
  clear hDs hdl
  go_enter Try.func4, Try.ntmps4
  go_wp2_with fail
  go_quiet (fail)
  go_wp2_with fail
  refine (awake4_any _).mono ?_
  rintro e w1 ⟨rfl, hb1⟩
  have hB1 : Below w.heap.size w w1 := ((Below.refl _ w).alloc (Nat.le_refl _) _).trans ((below_drewN1 (Below.refl _ _) _).trans (hb1.mono (by simp [World.drewN])))
  clear hb1
  go_wp2_with fail
  clear j0
  go_loop [11, 12, 37] (fun s _ i => ∃ (j : Nat) (X : ByteArray), j ≤ b % 60 ∧ i = .int .i64 j ∧ s = .string X ∧ X.size ≤ 1 + j ∧ Hid (X.data.toList = headC (a % 3) :: partL j)) (fun _ _ i => b % 60 - (intOf i).toNat)
  case atStart => exact ⟨0, X0, Nat.zero_le _, rfl, rfl, by rw [Hx0s.out]; exact Nat.le_refl _, Hx0.out⟩
  case round =>
    obtain ⟨j, X, hj, rfl, rfl, hX, HX⟩ := hrel
    by_cases hlt : j < b % 60
    · have hpc := Lib.hid (part_piece j)
      have hps : ((⟨#[97, 48, 46, 122, 45]⟩ : ByteArray).extract (j % 5) (j % 5 + 1)).size ≤ 1 := by simp only [ByteArray.size_extract]; omega
      go_wp2
      go_round
      case rel => exact ⟨j + 1, _, by omega, by go_num, rfl, by simp only [ByteArray.size_append]; omega, by show _ = _; rw [data_append, HX.out, hpc.out, partL_succ]; rfl⟩
      case measure => simp [intOf]; omega
    · have hjn : j = b % 60 := by omega
      have Hj := Lib.hid hjn
      clear hjn
      have hc1 : (⟨#[58]⟩ : ByteArray).size = 1 := rfl
      go_wp2_with fail
      clear hc1
      have hjb : j ≤ 59 := by omega
      go_loop [11, 13, 52] (fun s _ i => ∃ (l : Nat) (Y : ByteArray), l ≤ c % 60 ∧ i = .int .i64 l ∧ s = .string Y ∧ Y.size ≤ 61 + l ∧ Hid (Y.data.toList = headC (a % 3) :: (partL j ++ 58 :: hostL l))) (fun _ _ i => c % 60 - (intOf i).toNat)
      case atStart => exact ⟨0, _, Nat.zero_le _, rfl, rfl, by simp only [ByteArray.size_append, show (⟨#[58]⟩ : ByteArray).size = 1 from rfl]; omega, by show _ = _; rw [data_append, HX.out]; rfl⟩
      case round =>
        obtain ⟨l, Y, hl, rfl, rfl, hY, HY⟩ := hrel
        by_cases hlt2 : l < c % 60
        · have hpc := Lib.hid (host_piece l)
          have hps : ((⟨#[120, 57, 46, 45]⟩ : ByteArray).extract (l % 4) (l % 4 + 1)).size ≤ 1 := by simp only [ByteArray.size_extract]; omega
          go_wp2
          go_round
          case rel => exact ⟨l + 1, _, by omega, by go_num, rfl, by simp only [ByteArray.size_append]; omega, by show _ = _; rw [data_append, HY.out, hpc.out, hostL_succ]; simp⟩
          case measure => simp [intOf]; omega
        · have hlc : l = c % 60 := by omega
          have Hl := Lib.hid hlc
          clear hlc
          have hc1 : (⟨#[58]⟩ : ByteArray).size = 1 := rfl
          by_cases hp0 : 0 < p
          · have hp1 : ((p : Int) == 0) = false := by rw [beq_eq_false_iff_ne]; omega
            have hmay := made_is (a % 3) j l p hk3 (Y ++ (⟨#[58]⟩ ++ D)) (by rw [data_append, data_append, HY.out, HD.out]; simp [madeL, portL, hp0])
            have his := fun W : World => is_any (((a % 3 : Nat) : Int) + 1) (Y ++ (⟨#[58]⟩ ++ D)) W (by unfold maxLen; simp only [ByteArray.size_append, hc1]; omega)
            rw [hmay] at his
            clear hmay
            have hval : mayB j l p = (decide (1 ≤ j) && decide (j ≤ 50) && decide (1 ≤ l) && decide (l ≤ 50) && decide (D.size ≤ 5)) := by
              unfold mayB
              rw [HDs.out]
              have e : (p == 0) = false := by rw [beq_eq_false_iff_ne]; omega
              rw [e, Bool.false_or]
            rw [hval] at his
            clear hval
            by_cases q1 : 1 ≤ j <;> by_cases q2 : j ≤ 50 <;> by_cases q3 : 1 ≤ l <;> by_cases q4 : l ≤ 50 <;> by_cases q5 : D.size ≤ 5
            all_goals try (exfalso; omega)
            all_goals
              simp only [q1, q2, q3, q4, q5] at his
              simp at his
              have g1 : j ≤ b % 60 := by rw [Hj.out]; exact Nat.le_refl _
              have g2 : b % 60 ≤ j := by rw [Hj.out]; exact Nat.le_refl _
              have g3 : l ≤ c % 60 := by rw [Hl.out]; exact Nat.le_refl _
              have g4 : c % 60 ≤ l := by rw [Hl.out]; exact Nat.le_refl _
              go_wp2_with (first | (go_at_call 7; refine (hdig _).mono ?_; rintro e w' ⟨rfl, rfl⟩) | (go_at_call 6; refine (his _).mono ?_; rintro e w2 ⟨rfl, hb2⟩))
              go_ret
              exact ⟨ret_bool (by first | (simp; done) | (simp; omega)), hB1.trans (hb2.mono hB1.size)⟩
          · have hp1 : ((p : Int) == 0) = true := by rw [beq_iff_eq]; omega
            have hmay := made_is (a % 3) j l p hk3 Y (by rw [HY.out]; simp [madeL, portL, hp0])
            have his := fun W : World => is_any (((a % 3 : Nat) : Int) + 1) Y W (by unfold maxLen; omega)
            rw [hmay] at his
            clear hmay
            have hval : mayB j l p = (decide (1 ≤ j) && decide (j ≤ 50) && decide (1 ≤ l) && decide (l ≤ 50)) := by
              unfold mayB
              have e : (p == 0) = true := by rw [beq_iff_eq]; omega
              rw [e, Bool.true_or, Bool.and_true]
            rw [hval] at his
            clear hval
            by_cases q1 : 1 ≤ j <;> by_cases q2 : j ≤ 50 <;> by_cases q3 : 1 ≤ l <;> by_cases q4 : l ≤ 50
            all_goals try (exfalso; omega)
            all_goals
              simp only [q1, q2, q3, q4] at his
              simp at his
              have g1 : j ≤ b % 60 := by rw [Hj.out]; exact Nat.le_refl _
              have g2 : b % 60 ≤ j := by rw [Hj.out]; exact Nat.le_refl _
              have g3 : l ≤ c % 60 := by rw [Hl.out]; exact Nat.le_refl _
              have g4 : c % 60 ≤ l := by rw [Hl.out]; exact Nat.le_refl _
              go_wp2_with (first | (go_at_call 7; refine (hdig _).mono ?_; rintro e w' ⟨rfl, rfl⟩) | (go_at_call 6; refine (his _).mono ?_; rintro e w2 ⟨rfl, hb2⟩))
              go_ret
              exact ⟨ret_bool (by first | (simp; done) | (simp; omega)), hB1.trans (hb2.mono hB1.size)⟩

end Go.Proofs.Ytmohbbmokcnbhaa
