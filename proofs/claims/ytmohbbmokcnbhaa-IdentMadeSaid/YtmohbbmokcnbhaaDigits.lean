/-
  The reference's Digits: a number's decimal text.
-/
import Derived.Test.YtmohbbmokcnbhaaStrs
import Derived.Lib.ItoaNum
namespace Go.Proofs.Ytmohbbmokcnbhaa
open Go.RowKit

theorem ret_str {a b : ByteArray} (h : a = b) : Ending.returned (.string a) = .returned (.string b) := by rw [h]
theorem bytes_ext {a b : ByteArray} (h : a.data.toList = b.data.toList) : a = b := by
  cases a; cases b; simp at h; rw [h]

theorem decDigits_len (k : Nat) : ∀ n : Nat, n < 10 ^ (k + 1) → (Lib.decDigits n).length ≤ k + 1 := by
  induction k with
  | zero => intro n h; rw [Lib.decDigits_one (by omega)]; simp
  | succ k ih =>
    intro n h
    by_cases h1 : n < 10
    · rw [Lib.decDigits_one h1]; simp
    · rw [Lib.decDigits, dif_neg h1]
      have h2 : n < 10 * 10 ^ (k + 1) := by rw [Nat.pow_succ] at h; omega
      have := ih (n / 10) (by omega)
      simp only [List.length_append, List.length_cons, List.length_nil]
      omega

theorem decDigits_step (m : Nat) (h : ¬ m < 10) : Lib.decDigits m = Lib.decDigits (m / 10) ++ [UInt8.ofNat (48 + m % 10)] := by rw [Lib.decDigits, dif_neg h]

def tenDigits : ByteArray := ⟨#[48, 49, 50, 51, 52, 53, 54, 55, 56, 57]⟩
theorem ten_piece (i : Nat) (h : i < 10) : (tenDigits.extract i (i + 1)).data.toList = [UInt8.ofNat (48 + i)] := by
  rw [Lib.extract_data]
  have : i = 0 ∨ i = 1 ∨ i = 2 ∨ i = 3 ∨ i = 4 ∨ i = 5 ∨ i = 6 ∨ i = 7 ∨ i = 8 ∨ i = 9 := by omega
  rcases this with rfl | rfl | rfl | rfl | rfl | rfl | rfl | rfl | rfl | rfl <;> rfl

theorem data_append (a b : ByteArray) : (a ++ b).data.toList = a.data.toList ++ b.data.toList := by simp

set_option maxHeartbeats 1000000 in
theorem digits_any (n : Nat) (w : World) (hn : n ≤ 9223372036854775807) :
    Calls Try.prog 7 #[.int .i64 n] w fun e w' => e = .returned (.string ⟨(Lib.decDigits n).toArray⟩) ∧ w = w' := by
  have hlen := decDigits_len 19 n (by have : (10 : Nat) ^ (19 + 1) = 100000000000000000000 := by decide
                                      omega)
  go_enter Try.func7, Try.ntmps7
  go_wp2
  go_loop [0, 3] (fun a s => ∃ (m : Nat) (X : ByteArray), a = .int .i64 m ∧ s = .string X ∧ m ≤ n ∧ X.size ≤ 20 ∧ Hid (Lib.decDigits m ++ X.data.toList = Lib.decDigits n)) (fun a _ => (intOf a).toNat)
  case atStart => exact ⟨n, ⟨#[]⟩, rfl, rfl, Nat.le_refl _, by simp [ByteArray.size], by simp [Hid]⟩
  case round =>
    obtain ⟨m, X, rfl, rfl, hm, hX, hd⟩ := hrel
    by_cases h10 : m < 10
    · have hp := Lib.hid (ten_piece m h10)
      have hp2 := Lib.hid (Lib.decDigits_one h10)
      have hl : (tenDigits.extract m (m + 1)).size ≤ 20 := by simp only [ByteArray.size_extract]; omega
      unfold tenDigits at hl hp
      go_wp2
      go_ret
      refine ⟨ret_str (bytes_ext ?_), rfl⟩
      have h1 := hd.out
      rw [hp2.out] at h1
      rw [data_append, hp.out, h1]
    · have hs := Lib.hid (decDigits_step m h10)
      have hp := Lib.hid (ten_piece (m % 10) (by omega))
      have hl : (tenDigits.extract (m % 10) (m % 10 + 1)).size ≤ 1 := by simp only [ByteArray.size_extract]; omega
      unfold tenDigits at hl hp
      have hlen2 : (Lib.decDigits (m / 10)).length + 1 + X.size ≤ 20 := by
        have h1 := congrArg List.length hd.out
        rw [hs.out] at h1
        have e : X.data.toList.length = X.size := by simp
        simp only [List.length_append, List.length_cons, List.length_nil] at h1
        omega
      go_wp2
      refine ⟨⟨m / 10, _, by go_num, rfl, by omega, by simp only [ByteArray.size_append]; omega, ?_⟩, by simp [intOf]; omega⟩
      show _ = _
      have h1 := hd.out
      rw [hs.out] at h1
      rw [data_append, hp.out, ← h1, List.append_assoc]

end Go.Proofs.Ytmohbbmokcnbhaa
