/- Part 6 of the proof of CardValueChecks: V4 V5 V6 V7 V9 V21 V22 V23 V24. -/
import Derived.Test.YtmjendeigjdihaaDoorVc5
import Derived.Lib.ValidLaws
import Derived.Lib.TrimUEq
import Derived.Lib.RuneCount
/-
  Digits, and UTF-8 (chapter 1): the document's.
-/
namespace Go.Proofs.YtmjendeigjdihaaDoor
open Go.RowKit
set_option maxRecDepth 100000
set_option linter.unusedVariables false
set_option linter.unusedSimpArgs false
attribute [local irreducible] awp aops aop aput aseq ablock TriX Tri Ret Fresh dq adraw dtail dals dfin Wk

def tenDigits : ByteArray := ⟨#[48, 49, 50, 51, 52, 53, 54, 55, 56, 57]⟩
theorem bytes_ext {a b : ByteArray} (h : a.data.toList = b.data.toList) : a = b := by
  cases a; cases b; simp only [ByteArray.mk.injEq]; exact Array.toList_inj.1 h
theorem ten_piece (i : Nat) (h : i < 10) : (ByteArray.mk #[48, 49, 50, 51, 52, 53, 54, 55, 56, 57]).extract i (i + 1) = ⟨#[UInt8.ofNat (48 + i)]⟩ := by
  have : i = 0 ∨ i = 1 ∨ i = 2 ∨ i = 3 ∨ i = 4 ∨ i = 5 ∨ i = 6 ∨ i = 7 ∨ i = 8 ∨ i = 9 := by omega
  rcases this with h | h | h | h | h | h | h | h | h | h <;> subst h <;> rfl
theorem digB_small {m : Nat} (h : m < 10) : digB m = ⟨#[UInt8.ofNat (48 + m)]⟩ := by rw [digB, Lib.decDigits, dif_pos h]
theorem digB_step {m : Nat} (h : ¬ m < 10) : digB m = digB (m / 10) ++ ⟨#[UInt8.ofNat (48 + m % 10)]⟩ := by
  refine bytes_ext ?_
  simp only [digB, ByteArray.data_append]
  conv => lhs; rw [Lib.decDigits, dif_neg h]
  simp
set_option maxHeartbeats 4000000 in
theorem digitsT (n : Nat) (hn : n < 9223372036854775807) (σ : St) : Tri Tryd.prog 26 [.i n] σ fun d τ => d = .s (digB n) ∧ τ = σ := by
  refine tri_fn Tryd.func26 rfl Tryd.ntmps26 Tryd.results26 (Nat.le_of_ble_eq_true rfl) ?_
  refine' wlk0
  refine awp_loopM [0, 3, 4, 5, 6, 7, 8, 9, 10, 11, 12, 13, 14, 15] (fun X τ => ∃ (m : Nat) (s : ByteArray), X 0 = .i m ∧ X 3 = .s s ∧ digB n = digB m ++ s ∧ m ≤ n ∧ s.size + m ≤ n ∧ τ = σ) (fun X _ => (X 0).int.toNat) ?_ ?_
  · refine .same ⟨mix_self _ _, n, ByteArray.empty, ?_, ?_, ?_, Nat.le_refl _, by simp, rfl⟩ <;> simp [*]
    refine bytes_ext ?_
    simp
  · rintro X τ ⟨m, s, h0, h3, he, hm, hz, rfl⟩ _ hL
    have HE := Lib.hid he
    clear he
    have e10 : (ByteArray.mk #[48, 49, 50, 51, 52, 53, 54, 55, 56, 57]).size = 10 := rfl
    by_cases hlt : m < 10
    · have h10 : ¬ (10 : Int) ≤ m := by omega
      have hp := ten_piece m hlt
      have hx : (m : Int) + 1 ≤ 10 := by omega
      have hx' : (m : Int) ≤ m + 1 := by omega
      obtain ⟨c, hc⟩ : ∃ c, c = ByteArray.mk #[UInt8.ofNat (48 + m)] := ⟨_, rfl⟩
      have e1 : c.size = 1 := hc ▸ rfl
      rw [← hc] at hp
      have HC := Lib.hid hc
      clear hc
      refine' wlk0
      ((try simp [*]); (try simp (discharger := omega) only [wrap_i64, dec_t, dec_f]))
      exact .same ⟨by rw [HE.out, digB_small hlt, HC.out], rfl⟩
    · have h10 : (10 : Int) ≤ m := by omega
      have hmod : (m : Int).tmod 10 = ((m % 10 : Nat) : Int) := by rw [Int.tmod_eq_emod_of_nonneg (by omega)]; rfl
      have hquo : (m : Int).tdiv 10 = ((m / 10 : Nat) : Int) := by rw [Int.tdiv_eq_ediv_of_nonneg (by omega)]; rfl
      have hp := ten_piece (m % 10) (by omega)
      have hq : ((m : Int) % 10).toNat = m % 10 := by omega
      have hq1 : ((m : Int) % 10 + 1).toNat = m % 10 + 1 := by omega
      have hx : (m : Int) % 10 + 1 ≤ 10 := by omega
      have hx0 : 0 ≤ (m : Int) % 10 := by omega
      have hx' : (m : Int) % 10 ≤ m % 10 + 1 := by omega
      obtain ⟨c, hc⟩ : ∃ c, c = ByteArray.mk #[UInt8.ofNat (48 + m % 10)] := ⟨_, rfl⟩
      have e1 : c.size = 1 := hc ▸ rfl
      rw [← hc] at hp
      have HC := Lib.hid hc
      clear hc
      refine' wlk0
      refine hL.out _ _ (.same ⟨mixT, ⟨m / 10, c ++ s, ?_, ?_, ?_, by omega, by rw [ByteArray.size_append, e1]; omega, rfl⟩, ?_⟩)
      · simp [*]
      · simp [*]
      · rw [HE.out, digB_step hlt, ByteArray.append_assoc, HC.out]
      · simp [*, D.int]; omega
end Go.Proofs.YtmjendeigjdihaaDoor
/-
  UTF-8 (chapter 1): the document's.
-/
namespace Go.Proofs.YtmjendeigjdihaaDoor
open Go.RowKit
set_option maxRecDepth 100000
set_option linter.unusedVariables false
set_option linter.unusedSimpArgs false
attribute [local irreducible] awp aops aop aput aseq ablock TriX Tri Ret Fresh dq adraw dtail dals dfin Wk

/-- The first sign of a text of n bytes that begins b0 b1 b2 b3. -/
def runeN (n b0 b1 b2 b3 : Nat) : Nat × Nat := if n = 0 then (0, 0) else if (Lib.decodeN n b0 b1 b2 b3).1 = 65533 ∧ (Lib.decodeN n b0 b1 b2 b3).2 = 1 then (0, 0) else Lib.decodeN n b0 b1 b2 b3
def byteAt (s : ByteArray) (k : Nat) : Nat := (s.data.toList.getD k 0).toNat
def runeB (s : ByteArray) : Nat × Nat := runeN s.size (byteAt s 0) (byteAt s 1) (byteAt s 2) (byteAt s 3)
theorem byteAt_lt (s : ByteArray) (k : Nat) : byteAt s k < 256 := (s.data.toList.getD k 0).toNat_lt
theorem byteAt_eq (s : ByteArray) (k : Nat) (h : k < s.data.size) : s.data[k].toNat = byteAt s k := by
  rw [byteAt, List.getD_eq_getElem?_getD, List.getElem?_eq_getElem (by simpa using h)]
  simp
/-- A class of first bytes: how long, the first byte's bits, the least. -/
def Cls (b0 L : Nat) (n0 : Int) (least : Nat) : Prop := (194 ≤ b0 ∧ b0 < 224 ∧ L = 2 ∧ n0 = b0 - 192 ∧ least = 128) ∨ (224 ≤ b0 ∧ b0 < 240 ∧ L = 3 ∧ n0 = b0 - 224 ∧ least = 2048) ∨ (240 ≤ b0 ∧ b0 < 245 ∧ L = 4 ∧ n0 = b0 - 240 ∧ least = 65536)
def Con (b : Nat) : Prop := 128 ≤ b ∧ b ≤ 191
def Part (n0 : Int) (b1 b2 b3 k : Nat) (n : Int) : Prop :=
  (2 ≤ k → Con b1) ∧ (3 ≤ k → Con b2) ∧ (4 ≤ k → Con b3) ∧ (k = 1 → n = n0) ∧ (k = 2 → n = n0 * 64 + b1 - 128) ∧ (k = 3 → n = (n0 * 64 + b1 - 128) * 64 + b2 - 128) ∧ (k = 4 → n = ((n0 * 64 + b1 - 128) * 64 + b2 - 128) * 64 + b3 - 128)
theorem rune_else (n b0 b1 b2 b3 : Nat) (h0 : 128 ≤ b0) (hb : b0 < 256) (h : b0 < 194 ∨ 245 ≤ b0) : runeN n b0 b1 b2 b3 = (0, 0) := by
  unfold runeN Lib.decodeN
  repeat' split
  all_goals first | rfl | (exfalso; simp_all; done) | (exfalso; omega) | (exfalso; simp_all; omega)
theorem rune_short (n b0 b1 b2 b3 L : Nat) (n0 : Int) (least : Nat) (h : Cls b0 L n0 least) (hn : n < L) : runeN n b0 b1 b2 b3 = (0, 0) := by
  unfold Cls at h
  unfold runeN Lib.decodeN
  repeat' split
  all_goals first | rfl | (exfalso; simp_all; done) | (exfalso; omega) | (exfalso; simp_all; omega)
theorem rune_bad (n b0 b1 b2 b3 L : Nat) (n0 : Int) (least : Nat) (h : Cls b0 L n0 least) (hb : ¬ Con b1 ∨ ¬ Con b2 ∧ 3 ≤ L ∨ ¬ Con b3 ∧ 4 ≤ L) : runeN n b0 b1 b2 b3 = (0, 0) := by
  unfold Con at hb
  unfold Cls at h
  unfold runeN Lib.decodeN
  repeat' split
  all_goals first | rfl | (exfalso; simp_all; done) | (exfalso; omega) | (exfalso; simp_all; omega)
theorem rune_2 (n b0 b1 b2 b3 : Nat) (h : 194 ≤ b0 ∧ b0 < 224) (hn : 2 ≤ n) (hp : Con b1) : runeN n b0 b1 b2 b3 = ((b0 - 192) * 64 + (b1 - 128), 2) := by
  unfold Con at hp
  have e : Lib.decodeN n b0 b1 b2 b3 = ((b0 - 192) * 64 + (b1 - 128), 2) := by
    rw [Lib.decodeN, if_neg (by omega), if_pos (by omega), if_pos (by omega)]
    exact Prod.ext (by simp only; omega) rfl
  rw [runeN, if_neg (by omega), e, if_neg (by simp)]
theorem rune_3 (n b0 b1 b2 b3 x : Nat) (h : 224 ≤ b0 ∧ b0 < 240) (hn : 3 ≤ n) (h1 : Con b1) (h2 : Con b2) (hx : x = ((b0 - 224) * 64 + (b1 - 128)) * 64 + (b2 - 128)) :
    runeN n b0 b1 b2 b3 = if 2048 ≤ x ∧ (x < 55296 ∨ 57344 ≤ x) then (x, 3) else (0, 0) := by
  unfold Con at h1 h2
  have hx' : b0 % 16 * 4096 + b1 % 64 * 64 + b2 % 64 = x := by omega
  have hm : x ≤ 65535 := by omega
  have e : Lib.decodeN n b0 b1 b2 b3 = if 2048 ≤ x ∧ (x < 55296 ∨ 57344 ≤ x) then (x, 3) else (65533, 1) := by
    rw [Lib.decodeN, if_neg (by omega), if_neg (by omega), if_pos (by omega), hx']
    by_cases hc : 2048 ≤ x ∧ (x < 55296 ∨ 57344 ≤ x)
    · rw [if_pos hc, if_pos (by omega)]
    · rw [if_neg hc, if_neg (by omega)]
  rw [runeN, if_neg (by omega), e]
  by_cases hc : 2048 ≤ x ∧ (x < 55296 ∨ 57344 ≤ x)
  · rw [if_pos hc, if_neg (by simp), if_pos hc]
  · rw [if_neg hc, if_pos ⟨rfl, rfl⟩, if_neg hc]
theorem rune_4 (n b0 b1 b2 b3 x : Nat) (h : 240 ≤ b0 ∧ b0 < 245) (hn : 4 ≤ n) (h1 : Con b1) (h2 : Con b2) (h3 : Con b3) (hx : x = (((b0 - 240) * 64 + (b1 - 128)) * 64 + (b2 - 128)) * 64 + (b3 - 128)) :
    runeN n b0 b1 b2 b3 = if 65536 ≤ x ∧ x ≤ 1114111 then (x, 4) else (0, 0) := by
  unfold Con at h1 h2 h3
  have hx' : b0 % 8 * 262144 + b1 % 64 * 4096 + b2 % 64 * 64 + b3 % 64 = x := by omega
  have e : Lib.decodeN n b0 b1 b2 b3 = if 65536 ≤ x ∧ x ≤ 1114111 then (x, 4) else (65533, 1) := by
    rw [Lib.decodeN, if_neg (by omega), if_neg (by omega), if_neg (by omega), if_pos (by omega), hx']
    by_cases hc : 65536 ≤ x ∧ x ≤ 1114111
    · rw [if_pos hc, if_pos (by omega)]
    · rw [if_neg hc, if_neg (by omega)]
  rw [runeN, if_neg (by omega), e]
  by_cases hc : 65536 ≤ x ∧ x ≤ 1114111
  · rw [if_pos hc, if_neg (by simp), if_pos hc]
  · rw [if_neg hc, if_pos ⟨rfl, rfl⟩, if_neg hc]
theorem rune_out (n b0 b1 b2 b3 L : Nat) (n0 : Int) (least : Nat) (x : Int) (h : Cls b0 L n0 least) (hn : L ≤ n) (hp : Part n0 b1 b2 b3 L x) (ho : x < least ∨ 1114111 < x ∨ 55296 ≤ x ∧ x < 57344) : runeN n b0 b1 b2 b3 = (0, 0) := by
  obtain ⟨p2, p3, p4, q1, q2, q3, q4⟩ := hp
  rcases h with ⟨a, b, rfl, rfl, rfl⟩ | ⟨a, b, rfl, rfl, rfl⟩ | ⟨a, b, rfl, rfl, rfl⟩
  · have c1 := p2 (by omega); have hx := q2 rfl
    unfold Con at c1
    omega
  · have c1 := p2 (by omega); have c2 := p3 (by omega); have hx := q3 rfl
    rw [rune_3 n b0 b1 b2 b3 _ ⟨a, b⟩ hn c1 c2 rfl, if_neg]
    unfold Con at c1 c2
    omega
  · have c1 := p2 (by omega); have c2 := p3 (by omega); have c3 := p4 (by omega); have hx := q4 rfl
    rw [rune_4 n b0 b1 b2 b3 _ ⟨a, b⟩ hn c1 c2 c3 rfl, if_neg]
    unfold Con at c1 c2 c3
    omega
theorem rune_in (n b0 b1 b2 b3 L : Nat) (n0 : Int) (least : Nat) (x : Int) (h : Cls b0 L n0 least) (hn : L ≤ n) (hp : Part n0 b1 b2 b3 L x) (h1 : least ≤ x) (h2 : x ≤ 1114111) (h3 : x < 55296 ∨ 57344 ≤ x) : ((runeN n b0 b1 b2 b3).1 : Int) = x ∧ (runeN n b0 b1 b2 b3).2 = L := by
  obtain ⟨p2, p3, p4, q1, q2, q3, q4⟩ := hp
  rcases h with ⟨a, b, rfl, rfl, rfl⟩ | ⟨a, b, rfl, rfl, rfl⟩ | ⟨a, b, rfl, rfl, rfl⟩
  · have c1 := p2 (by omega); have hx := q2 rfl
    rw [rune_2 n b0 b1 b2 b3 ⟨a, b⟩ hn c1]
    unfold Con at c1
    exact ⟨by simp only; omega, rfl⟩
  · have c1 := p2 (by omega); have c2 := p3 (by omega); have hx := q3 rfl
    rw [rune_3 n b0 b1 b2 b3 _ ⟨a, b⟩ hn c1 c2 rfl, if_pos]
    · unfold Con at c1 c2
      exact ⟨by simp only; omega, rfl⟩
    · unfold Con at c1 c2
      omega
  · have c1 := p2 (by omega); have c2 := p3 (by omega); have c3 := p4 (by omega); have hx := q4 rfl
    rw [rune_4 n b0 b1 b2 b3 _ ⟨a, b⟩ hn c1 c2 c3 rfl, if_pos]
    · unfold Con at c1 c2 c3
      exact ⟨by simp only; omega, rfl⟩
    · unfold Con at c1 c2 c3
      omega
set_option maxHeartbeats 8000000 in
theorem runeT (s : ByteArray) (hs : s.size ≤ 9223372036854775807) (σ : St) : Tri Tryd.prog 41 [.s s] σ fun d τ => d = .tup [.i (runeB s).1, .i (runeB s).2] ∧ τ = σ := by
  refine tri_fn Tryd.func41 rfl Tryd.ntmps41 Tryd.results41 (Nat.le_of_ble_eq_true rfl) ?_
  by_cases h0 : s.size = 0
  · have he : s = ⟨#[]⟩ := by
      refine bytes_ext ?_
      have : s.data.toList.length = 0 := by simpa using h0
      simp [List.eq_nil_of_length_eq_zero this]
    have hr : runeB s = (0, 0) := by rw [runeB, runeN, if_pos h0]
    have HR := Lib.hid hr
    clear hr h0 hs
    refine' wlk0
    ((try simp [*]); (try simp (discharger := omega) only [wrap_i64, dec_t, dec_f]))
    exact .same ⟨by rw [← he, HR.out]; rfl, rfl⟩
  · have hne : ¬ s = ⟨#[]⟩ := fun e => h0 (by rw [e]; rfl)
    have hpos : 0 < s.size := Nat.pos_of_ne_zero h0
    have B := Lib.hid (byteAt_eq s)
    obtain ⟨b0, hb0⟩ : ∃ b, byteAt s 0 = b := ⟨_, rfl⟩
    obtain ⟨b1, hb1⟩ : ∃ b, byteAt s 1 = b := ⟨_, rfl⟩
    obtain ⟨b2, hb2⟩ : ∃ b, byteAt s 2 = b := ⟨_, rfl⟩
    obtain ⟨b3, hb3⟩ : ∃ b, byteAt s 3 = b := ⟨_, rfl⟩
    have l0 : b0 < 256 := hb0 ▸ byteAt_lt s 0
    have l1 : b1 < 256 := hb1 ▸ byteAt_lt s 1
    have l2 : b2 < 256 := hb2 ▸ byteAt_lt s 2
    have l3 : b3 < 256 := hb3 ▸ byteAt_lt s 3
    have hr : runeB s = runeN s.size b0 b1 b2 b3 := by rw [runeB, hb0, hb1, hb2, hb3]
    have HR := Lib.hid hr
    have HB := Lib.hid (show byteAt s 0 = b0 ∧ byteAt s 1 = b1 ∧ byteAt s 2 = b2 ∧ byteAt s 3 = b3 from ⟨hb0, hb1, hb2, hb3⟩)
    clear hr hb0 hb1 hb2 hb3 h0
    have g0 : s.data[0].toNat = b0 := (B.out 0 hpos).trans HB.out.1
    by_cases h128 : b0 < 128
    · have h128' : (b0 : Int) < 128 := by omega
      have he : runeN s.size b0 b1 b2 b3 = (b0, 1) := by
        rw [runeN, if_neg (by omega), Lib.decodeN, if_pos h128, if_neg (by simp only; omega)]
      refine' wlk0
      ((try simp [*]); (try simp (discharger := omega) only [wrap_i64, dec_t, dec_f]))
      exact .same ⟨by rw [HR.out, he]; rfl, rfl⟩
    have h128' : ¬ (b0 : Int) < 128 := by omega
    by_cases c1 : b0 < 194
    · have k1 : ¬ (194 : Int) ≤ b0 := by omega
      have k2 : ¬ (224 : Int) ≤ b0 := by omega
      have k3 : ¬ (240 : Int) ≤ b0 := by omega
      refine' wlk0
      ((try simp [*]); (try simp (discharger := omega) only [wrap_i64, dec_t, dec_f]))
      exact .same ⟨by rw [HR.out, rune_else _ _ _ _ _ (by omega) l0 (by omega)]; rfl, rfl⟩
    have k1 : (194 : Int) ≤ b0 := by omega
    by_cases c2 : b0 < 224
    · have m1 : (b0 : Int) < 224 := by omega
      have hc : Cls b0 2 (b0 - 192) 128 := .inl ⟨by omega, by omega, rfl, rfl, rfl⟩
      have HC := Lib.hid hc
      clear hc
      by_cases hsz : s.size < 2
      · have hsz' : (s.size : Int) < 2 := by omega
        refine' wlk0
        ((try simp [*]); (try simp (discharger := omega) only [wrap_i64, dec_t, dec_f]))
        exact .same ⟨by rw [HR.out, rune_short _ _ _ _ _ _ _ _ HC.out hsz]; rfl, rfl⟩
      have hsz' : ¬ (s.size : Int) < 2 := by omega
      refine' wlk0
      refine awp_loopM [2, 3, 6, 8, 9, 49, 50, 51, 52, 53, 54, 55, 56, 57, 58, 59, 60, 61, 62, 63, 64, 65, 66, 67, 68] (fun X τ => ∃ (k : Nat) (n : Int), 1 ≤ k ∧ k ≤ 2 ∧ X 8 = .i k ∧ X 6 = .i n ∧ Part (b0 - 192) b1 b2 b3 k n ∧ τ = σ) (fun X _ => 4 - (X 8).int.toNat) ?_ ?_
      · refine .same ⟨mix_self _ _, 1, b0 - 192, by omega, by omega, ?_, ?_, ⟨by omega, by omega, by omega, fun _ => rfl, by omega, by omega, by omega⟩, rfl⟩ <;> simp [*]
      · rintro X τ ⟨k, n, hk1, hk, h8, h6, hp, rfl⟩ _ hL
        have HP := Lib.hid hp
        clear hp
        rcases (show k = 1 ∨ k = 2 from by omega) with rfl | rfl
        · have hks : 1 < s.size := by omega
          have g : (s.data[1]'hks).toNat = b1 := (B.out 1 hks).trans HB.out.2.1
          obtain ⟨p2, p3, p4, q1, q2, q3, q4⟩ := HP.out
          have hn := q1 rfl
          have HN := Lib.hid (show n = _ from hn)
          have hnb : 0 ≤ n ∧ n ≤ 8388608 := by
            have hc := HC.out
            unfold Cls at hc
            unfold Con at *
            omega
          clear q1 q2 q3 q4 hn
          have HQ := Lib.hid (show _ ∧ _ ∧ _ from ⟨p2, p3, p4⟩)
          clear p2 p3 p4
          by_cases hlow : b1 < 128
          · have hl' : (b1 : Int) < 128 := by omega
            have hcon : ¬ Con b1 := by unfold Con; omega
            refine' wlk0
            ((try simp [*]); (try simp (discharger := omega) only [wrap_i64, dec_t, dec_f]))
            exact .same ⟨by rw [HR.out, rune_bad _ _ _ _ _ _ _ _ HC.out (.inl hcon)]; rfl, rfl⟩
          have hl' : ¬ (b1 : Int) < 128 := by omega
          by_cases hhi : 191 < b1
          · have hh' : (191 : Int) < b1 := by omega
            have hcon : ¬ Con b1 := by unfold Con; omega
            refine' wlk0
            ((try simp [*]); (try simp (discharger := omega) only [wrap_i64, dec_t, dec_f]))
            exact .same ⟨by rw [HR.out, rune_bad _ _ _ _ _ _ _ _ HC.out (.inl hcon)]; rfl, rfl⟩
          have hh' : ¬ (191 : Int) < b1 := by omega
          refine' wlk0
          refine hL.out _ _ (.same ⟨mixT, ⟨2, n * 64 + b1 - 128, by omega, by omega, ?_, ?_, ?_, rfl⟩, ?_⟩)
          · simp [*]
          · simp [*]
          · exact ⟨fun _ => (⟨by omega, by omega⟩ : Con b1), by omega, by omega, by omega, fun _ => by have := HN.out; omega, by omega, by omega⟩
          · simp [*, D.int]
        · obtain ⟨hn0, hn1⟩ : 0 ≤ n ∧ n ≤ 8388608 := by
            obtain ⟨p2, p3, p4, q1, q2, q3, q4⟩ := HP.out
            have hc := HC.out
            have hn := q2 rfl
            have d1 := p2 (by omega)
            unfold Cls at hc
            unfold Con at *
            omega
          by_cases e1 : n < 128
          · refine' wlk0
            ((try simp [*]); (try simp (discharger := omega) only [wrap_i64, dec_t, dec_f]))
            exact .same ⟨by rw [HR.out, rune_out _ _ _ _ _ _ _ _ n HC.out (by omega) HP.out (by omega)]; rfl, rfl⟩
          by_cases e2 : 1114111 < n
          · refine' wlk0
            ((try simp [*]); (try simp (discharger := omega) only [wrap_i64, dec_t, dec_f]))
            exact .same ⟨by rw [HR.out, rune_out _ _ _ _ _ _ _ _ n HC.out (by omega) HP.out (by omega)]; rfl, rfl⟩
          by_cases e3 : 55296 ≤ n
          · by_cases e4 : n < 57344
            · refine' wlk0
              ((try simp [*]); (try simp (discharger := omega) only [wrap_i64, dec_t, dec_f]))
              exact .same ⟨by rw [HR.out, rune_out _ _ _ _ _ _ _ _ n HC.out (by omega) HP.out (by omega)]; rfl, rfl⟩
            · refine' wlk0
              ((try simp [*]); (try simp (discharger := omega) only [wrap_i64, dec_t, dec_f]))
              have hf := rune_in s.size b0 b1 b2 b3 _ _ _ n HC.out (by omega) HP.out (by omega) (by omega) (by omega)
              exact .same ⟨by rw [HR.out, hf.1, hf.2]; rfl, rfl⟩
          · refine' wlk0
            ((try simp [*]); (try simp (discharger := omega) only [wrap_i64, dec_t, dec_f]))
            have hf := rune_in s.size b0 b1 b2 b3 _ _ _ n HC.out (by omega) HP.out (by omega) (by omega) (by omega)
            exact .same ⟨by rw [HR.out, hf.1, hf.2]; rfl, rfl⟩
    have m1 : ¬ (b0 : Int) < 224 := by omega
    have k2 : (224 : Int) ≤ b0 := by omega
    by_cases c3 : b0 < 240
    · have m2 : (b0 : Int) < 240 := by omega
      have hc : Cls b0 3 (b0 - 224) 2048 := .inr (.inl ⟨by omega, by omega, rfl, rfl, rfl⟩)
      have HC := Lib.hid hc
      clear hc
      by_cases hsz : s.size < 3
      · have hsz' : (s.size : Int) < 3 := by omega
        refine' wlk0
        ((try simp [*]); (try simp (discharger := omega) only [wrap_i64, dec_t, dec_f]))
        exact .same ⟨by rw [HR.out, rune_short _ _ _ _ _ _ _ _ HC.out hsz]; rfl, rfl⟩
      have hsz' : ¬ (s.size : Int) < 3 := by omega
      refine' wlk0
      refine awp_loopM [2, 3, 6, 8, 9, 49, 50, 51, 52, 53, 54, 55, 56, 57, 58, 59, 60, 61, 62, 63, 64, 65, 66, 67, 68] (fun X τ => ∃ (k : Nat) (n : Int), 1 ≤ k ∧ k ≤ 3 ∧ X 8 = .i k ∧ X 6 = .i n ∧ Part (b0 - 224) b1 b2 b3 k n ∧ τ = σ) (fun X _ => 4 - (X 8).int.toNat) ?_ ?_
      · refine .same ⟨mix_self _ _, 1, b0 - 224, by omega, by omega, ?_, ?_, ⟨by omega, by omega, by omega, fun _ => rfl, by omega, by omega, by omega⟩, rfl⟩ <;> simp [*]
      · rintro X τ ⟨k, n, hk1, hk, h8, h6, hp, rfl⟩ _ hL
        have HP := Lib.hid hp
        clear hp
        rcases (show k = 1 ∨ k = 2 ∨ k = 3 from by omega) with rfl | rfl | rfl
        · have hks : 1 < s.size := by omega
          have g : (s.data[1]'hks).toNat = b1 := (B.out 1 hks).trans HB.out.2.1
          obtain ⟨p2, p3, p4, q1, q2, q3, q4⟩ := HP.out
          have hn := q1 rfl
          have HN := Lib.hid (show n = _ from hn)
          have hnb : 0 ≤ n ∧ n ≤ 8388608 := by
            have hc := HC.out
            unfold Cls at hc
            unfold Con at *
            omega
          clear q1 q2 q3 q4 hn
          have HQ := Lib.hid (show _ ∧ _ ∧ _ from ⟨p2, p3, p4⟩)
          clear p2 p3 p4
          by_cases hlow : b1 < 128
          · have hl' : (b1 : Int) < 128 := by omega
            have hcon : ¬ Con b1 := by unfold Con; omega
            refine' wlk0
            ((try simp [*]); (try simp (discharger := omega) only [wrap_i64, dec_t, dec_f]))
            exact .same ⟨by rw [HR.out, rune_bad _ _ _ _ _ _ _ _ HC.out (.inl hcon)]; rfl, rfl⟩
          have hl' : ¬ (b1 : Int) < 128 := by omega
          by_cases hhi : 191 < b1
          · have hh' : (191 : Int) < b1 := by omega
            have hcon : ¬ Con b1 := by unfold Con; omega
            refine' wlk0
            ((try simp [*]); (try simp (discharger := omega) only [wrap_i64, dec_t, dec_f]))
            exact .same ⟨by rw [HR.out, rune_bad _ _ _ _ _ _ _ _ HC.out (.inl hcon)]; rfl, rfl⟩
          have hh' : ¬ (191 : Int) < b1 := by omega
          refine' wlk0
          refine hL.out _ _ (.same ⟨mixT, ⟨2, n * 64 + b1 - 128, by omega, by omega, ?_, ?_, ?_, rfl⟩, ?_⟩)
          · simp [*]
          · simp [*]
          · exact ⟨fun _ => (⟨by omega, by omega⟩ : Con b1), by omega, by omega, by omega, fun _ => by have := HN.out; omega, by omega, by omega⟩
          · simp [*, D.int]
        · have hks : 2 < s.size := by omega
          have g : (s.data[2]'hks).toNat = b2 := (B.out 2 hks).trans HB.out.2.2.1
          obtain ⟨p2, p3, p4, q1, q2, q3, q4⟩ := HP.out
          have hn := q2 rfl
          have HN := Lib.hid (show n = _ from hn)
          have hnb : 0 ≤ n ∧ n ≤ 8388608 := by
            have hc := HC.out
            have d1 := p2 (by omega)
            unfold Cls at hc
            unfold Con at *
            omega
          clear q1 q2 q3 q4 hn
          have HQ := Lib.hid (show _ ∧ _ ∧ _ from ⟨p2, p3, p4⟩)
          clear p2 p3 p4
          by_cases hlow : b2 < 128
          · have hl' : (b2 : Int) < 128 := by omega
            have hcon : ¬ Con b2 := by unfold Con; omega
            refine' wlk0
            ((try simp [*]); (try simp (discharger := omega) only [wrap_i64, dec_t, dec_f]))
            exact .same ⟨by rw [HR.out, rune_bad _ _ _ _ _ _ _ _ HC.out (.inr (.inl ⟨hcon, by omega⟩))]; rfl, rfl⟩
          have hl' : ¬ (b2 : Int) < 128 := by omega
          by_cases hhi : 191 < b2
          · have hh' : (191 : Int) < b2 := by omega
            have hcon : ¬ Con b2 := by unfold Con; omega
            refine' wlk0
            ((try simp [*]); (try simp (discharger := omega) only [wrap_i64, dec_t, dec_f]))
            exact .same ⟨by rw [HR.out, rune_bad _ _ _ _ _ _ _ _ HC.out (.inr (.inl ⟨hcon, by omega⟩))]; rfl, rfl⟩
          have hh' : ¬ (191 : Int) < b2 := by omega
          refine' wlk0
          refine hL.out _ _ (.same ⟨mixT, ⟨3, n * 64 + b2 - 128, by omega, by omega, ?_, ?_, ?_, rfl⟩, ?_⟩)
          · simp [*]
          · simp [*]
          · exact ⟨fun _ => HQ.out.1 (by omega), fun _ => (⟨by omega, by omega⟩ : Con b2), by omega, by omega, by omega, fun _ => by have := HN.out; omega, by omega⟩
          · simp [*, D.int]
        · obtain ⟨hn0, hn1⟩ : 0 ≤ n ∧ n ≤ 8388608 := by
            obtain ⟨p2, p3, p4, q1, q2, q3, q4⟩ := HP.out
            have hc := HC.out
            have hn := q3 rfl
            have d1 := p2 (by omega)
            have d2 := p3 (by omega)
            unfold Cls at hc
            unfold Con at *
            omega
          by_cases e1 : n < 2048
          · refine' wlk0
            ((try simp [*]); (try simp (discharger := omega) only [wrap_i64, dec_t, dec_f]))
            exact .same ⟨by rw [HR.out, rune_out _ _ _ _ _ _ _ _ n HC.out (by omega) HP.out (by omega)]; rfl, rfl⟩
          by_cases e2 : 1114111 < n
          · refine' wlk0
            ((try simp [*]); (try simp (discharger := omega) only [wrap_i64, dec_t, dec_f]))
            exact .same ⟨by rw [HR.out, rune_out _ _ _ _ _ _ _ _ n HC.out (by omega) HP.out (by omega)]; rfl, rfl⟩
          by_cases e3 : 55296 ≤ n
          · by_cases e4 : n < 57344
            · refine' wlk0
              ((try simp [*]); (try simp (discharger := omega) only [wrap_i64, dec_t, dec_f]))
              exact .same ⟨by rw [HR.out, rune_out _ _ _ _ _ _ _ _ n HC.out (by omega) HP.out (by omega)]; rfl, rfl⟩
            · refine' wlk0
              ((try simp [*]); (try simp (discharger := omega) only [wrap_i64, dec_t, dec_f]))
              have hf := rune_in s.size b0 b1 b2 b3 _ _ _ n HC.out (by omega) HP.out (by omega) (by omega) (by omega)
              exact .same ⟨by rw [HR.out, hf.1, hf.2]; rfl, rfl⟩
          · refine' wlk0
            ((try simp [*]); (try simp (discharger := omega) only [wrap_i64, dec_t, dec_f]))
            have hf := rune_in s.size b0 b1 b2 b3 _ _ _ n HC.out (by omega) HP.out (by omega) (by omega) (by omega)
            exact .same ⟨by rw [HR.out, hf.1, hf.2]; rfl, rfl⟩
    have m2 : ¬ (b0 : Int) < 240 := by omega
    have k3 : (240 : Int) ≤ b0 := by omega
    by_cases c4 : b0 < 245
    · have m3 : (b0 : Int) < 245 := by omega
      have hc : Cls b0 4 (b0 - 240) 65536 := .inr (.inr ⟨by omega, by omega, rfl, rfl, rfl⟩)
      have HC := Lib.hid hc
      clear hc
      by_cases hsz : s.size < 4
      · have hsz' : (s.size : Int) < 4 := by omega
        refine' wlk0
        ((try simp [*]); (try simp (discharger := omega) only [wrap_i64, dec_t, dec_f]))
        exact .same ⟨by rw [HR.out, rune_short _ _ _ _ _ _ _ _ HC.out hsz]; rfl, rfl⟩
      have hsz' : ¬ (s.size : Int) < 4 := by omega
      refine' wlk0
      refine awp_loopM [2, 3, 6, 8, 9, 49, 50, 51, 52, 53, 54, 55, 56, 57, 58, 59, 60, 61, 62, 63, 64, 65, 66, 67, 68] (fun X τ => ∃ (k : Nat) (n : Int), 1 ≤ k ∧ k ≤ 4 ∧ X 8 = .i k ∧ X 6 = .i n ∧ Part (b0 - 240) b1 b2 b3 k n ∧ τ = σ) (fun X _ => 4 - (X 8).int.toNat) ?_ ?_
      · refine .same ⟨mix_self _ _, 1, b0 - 240, by omega, by omega, ?_, ?_, ⟨by omega, by omega, by omega, fun _ => rfl, by omega, by omega, by omega⟩, rfl⟩ <;> simp [*]
      · rintro X τ ⟨k, n, hk1, hk, h8, h6, hp, rfl⟩ _ hL
        have HP := Lib.hid hp
        clear hp
        rcases (show k = 1 ∨ k = 2 ∨ k = 3 ∨ k = 4 from by omega) with rfl | rfl | rfl | rfl
        · have hks : 1 < s.size := by omega
          have g : (s.data[1]'hks).toNat = b1 := (B.out 1 hks).trans HB.out.2.1
          obtain ⟨p2, p3, p4, q1, q2, q3, q4⟩ := HP.out
          have hn := q1 rfl
          have HN := Lib.hid (show n = _ from hn)
          have hnb : 0 ≤ n ∧ n ≤ 8388608 := by
            have hc := HC.out
            unfold Cls at hc
            unfold Con at *
            omega
          clear q1 q2 q3 q4 hn
          have HQ := Lib.hid (show _ ∧ _ ∧ _ from ⟨p2, p3, p4⟩)
          clear p2 p3 p4
          by_cases hlow : b1 < 128
          · have hl' : (b1 : Int) < 128 := by omega
            have hcon : ¬ Con b1 := by unfold Con; omega
            refine' wlk0
            ((try simp [*]); (try simp (discharger := omega) only [wrap_i64, dec_t, dec_f]))
            exact .same ⟨by rw [HR.out, rune_bad _ _ _ _ _ _ _ _ HC.out (.inl hcon)]; rfl, rfl⟩
          have hl' : ¬ (b1 : Int) < 128 := by omega
          by_cases hhi : 191 < b1
          · have hh' : (191 : Int) < b1 := by omega
            have hcon : ¬ Con b1 := by unfold Con; omega
            refine' wlk0
            ((try simp [*]); (try simp (discharger := omega) only [wrap_i64, dec_t, dec_f]))
            exact .same ⟨by rw [HR.out, rune_bad _ _ _ _ _ _ _ _ HC.out (.inl hcon)]; rfl, rfl⟩
          have hh' : ¬ (191 : Int) < b1 := by omega
          refine' wlk0
          refine hL.out _ _ (.same ⟨mixT, ⟨2, n * 64 + b1 - 128, by omega, by omega, ?_, ?_, ?_, rfl⟩, ?_⟩)
          · simp [*]
          · simp [*]
          · exact ⟨fun _ => (⟨by omega, by omega⟩ : Con b1), by omega, by omega, by omega, fun _ => by have := HN.out; omega, by omega, by omega⟩
          · simp [*, D.int]
        · have hks : 2 < s.size := by omega
          have g : (s.data[2]'hks).toNat = b2 := (B.out 2 hks).trans HB.out.2.2.1
          obtain ⟨p2, p3, p4, q1, q2, q3, q4⟩ := HP.out
          have hn := q2 rfl
          have HN := Lib.hid (show n = _ from hn)
          have hnb : 0 ≤ n ∧ n ≤ 8388608 := by
            have hc := HC.out
            have d1 := p2 (by omega)
            unfold Cls at hc
            unfold Con at *
            omega
          clear q1 q2 q3 q4 hn
          have HQ := Lib.hid (show _ ∧ _ ∧ _ from ⟨p2, p3, p4⟩)
          clear p2 p3 p4
          by_cases hlow : b2 < 128
          · have hl' : (b2 : Int) < 128 := by omega
            have hcon : ¬ Con b2 := by unfold Con; omega
            refine' wlk0
            ((try simp [*]); (try simp (discharger := omega) only [wrap_i64, dec_t, dec_f]))
            exact .same ⟨by rw [HR.out, rune_bad _ _ _ _ _ _ _ _ HC.out (.inr (.inl ⟨hcon, by omega⟩))]; rfl, rfl⟩
          have hl' : ¬ (b2 : Int) < 128 := by omega
          by_cases hhi : 191 < b2
          · have hh' : (191 : Int) < b2 := by omega
            have hcon : ¬ Con b2 := by unfold Con; omega
            refine' wlk0
            ((try simp [*]); (try simp (discharger := omega) only [wrap_i64, dec_t, dec_f]))
            exact .same ⟨by rw [HR.out, rune_bad _ _ _ _ _ _ _ _ HC.out (.inr (.inl ⟨hcon, by omega⟩))]; rfl, rfl⟩
          have hh' : ¬ (191 : Int) < b2 := by omega
          refine' wlk0
          refine hL.out _ _ (.same ⟨mixT, ⟨3, n * 64 + b2 - 128, by omega, by omega, ?_, ?_, ?_, rfl⟩, ?_⟩)
          · simp [*]
          · simp [*]
          · exact ⟨fun _ => HQ.out.1 (by omega), fun _ => (⟨by omega, by omega⟩ : Con b2), by omega, by omega, by omega, fun _ => by have := HN.out; omega, by omega⟩
          · simp [*, D.int]
        · have hks : 3 < s.size := by omega
          have g : (s.data[3]'hks).toNat = b3 := (B.out 3 hks).trans HB.out.2.2.2
          obtain ⟨p2, p3, p4, q1, q2, q3, q4⟩ := HP.out
          have hn := q3 rfl
          have HN := Lib.hid (show n = _ from hn)
          have hnb : 0 ≤ n ∧ n ≤ 8388608 := by
            have hc := HC.out
            have d1 := p2 (by omega)
            have d2 := p3 (by omega)
            unfold Cls at hc
            unfold Con at *
            omega
          clear q1 q2 q3 q4 hn
          have HQ := Lib.hid (show _ ∧ _ ∧ _ from ⟨p2, p3, p4⟩)
          clear p2 p3 p4
          by_cases hlow : b3 < 128
          · have hl' : (b3 : Int) < 128 := by omega
            have hcon : ¬ Con b3 := by unfold Con; omega
            refine' wlk0
            ((try simp [*]); (try simp (discharger := omega) only [wrap_i64, dec_t, dec_f]))
            exact .same ⟨by rw [HR.out, rune_bad _ _ _ _ _ _ _ _ HC.out (.inr (.inr ⟨hcon, by omega⟩))]; rfl, rfl⟩
          have hl' : ¬ (b3 : Int) < 128 := by omega
          by_cases hhi : 191 < b3
          · have hh' : (191 : Int) < b3 := by omega
            have hcon : ¬ Con b3 := by unfold Con; omega
            refine' wlk0
            ((try simp [*]); (try simp (discharger := omega) only [wrap_i64, dec_t, dec_f]))
            exact .same ⟨by rw [HR.out, rune_bad _ _ _ _ _ _ _ _ HC.out (.inr (.inr ⟨hcon, by omega⟩))]; rfl, rfl⟩
          have hh' : ¬ (191 : Int) < b3 := by omega
          refine' wlk0
          refine hL.out _ _ (.same ⟨mixT, ⟨4, n * 64 + b3 - 128, by omega, by omega, ?_, ?_, ?_, rfl⟩, ?_⟩)
          · simp [*]
          · simp [*]
          · exact ⟨fun _ => HQ.out.1 (by omega), fun _ => HQ.out.2.1 (by omega), fun _ => (⟨by omega, by omega⟩ : Con b3), by omega, by omega, by omega, fun _ => by have := HN.out; omega⟩
          · simp [*, D.int]
        · obtain ⟨hn0, hn1⟩ : 0 ≤ n ∧ n ≤ 8388608 := by
            obtain ⟨p2, p3, p4, q1, q2, q3, q4⟩ := HP.out
            have hc := HC.out
            have hn := q4 rfl
            have d1 := p2 (by omega)
            have d2 := p3 (by omega)
            have d3 := p4 (by omega)
            unfold Cls at hc
            unfold Con at *
            omega
          by_cases e1 : n < 65536
          · refine' wlk0
            ((try simp [*]); (try simp (discharger := omega) only [wrap_i64, dec_t, dec_f]))
            exact .same ⟨by rw [HR.out, rune_out _ _ _ _ _ _ _ _ n HC.out (by omega) HP.out (by omega)]; rfl, rfl⟩
          by_cases e2 : 1114111 < n
          · refine' wlk0
            ((try simp [*]); (try simp (discharger := omega) only [wrap_i64, dec_t, dec_f]))
            exact .same ⟨by rw [HR.out, rune_out _ _ _ _ _ _ _ _ n HC.out (by omega) HP.out (by omega)]; rfl, rfl⟩
          by_cases e3 : 55296 ≤ n
          · by_cases e4 : n < 57344
            · refine' wlk0
              ((try simp [*]); (try simp (discharger := omega) only [wrap_i64, dec_t, dec_f]))
              exact .same ⟨by rw [HR.out, rune_out _ _ _ _ _ _ _ _ n HC.out (by omega) HP.out (by omega)]; rfl, rfl⟩
            · refine' wlk0
              ((try simp [*]); (try simp (discharger := omega) only [wrap_i64, dec_t, dec_f]))
              have hf := rune_in s.size b0 b1 b2 b3 _ _ _ n HC.out (by omega) HP.out (by omega) (by omega) (by omega)
              exact .same ⟨by rw [HR.out, hf.1, hf.2]; rfl, rfl⟩
          · refine' wlk0
            ((try simp [*]); (try simp (discharger := omega) only [wrap_i64, dec_t, dec_f]))
            have hf := rune_in s.size b0 b1 b2 b3 _ _ _ n HC.out (by omega) HP.out (by omega) (by omega) (by omega)
            exact .same ⟨by rw [HR.out, hf.1, hf.2]; rfl, rfl⟩
    have m3 : ¬ (b0 : Int) < 245 := by omega
    refine' wlk0
    ((try simp [*]); (try simp (discharger := omega) only [wrap_i64, dec_t, dec_f]))
    exact .same ⟨by rw [HR.out, rune_else _ _ _ _ _ (by omega) l0 (by omega)]; rfl, rfl⟩
end Go.Proofs.YtmjendeigjdihaaDoor
/-
  UTF-8 (chapter 1): a whole text.
-/
namespace Go.Proofs.YtmjendeigjdihaaDoor
open Go.RowKit
set_option maxRecDepth 100000
set_option linter.unusedVariables false
set_option linter.unusedSimpArgs false
attribute [local irreducible] awp aops aop aput aseq ablock TriX Tri Ret Fresh dq adraw dtail dals dfin Wk

theorem decode_bytes (s : ByteArray) : Lib.decodeL s.data.toList = Lib.decodeN s.size (byteAt s 0) (byteAt s 1) (byteAt s 2) (byteAt s 3) := by
  have h := Lib.decode_N s 0
  have e : (⟨s.data.toList.toArray⟩ : ByteArray) = s := by cases s; simp
  rw [Lib.decodeL, e, h]
  simp only [byteAt, Nat.sub_zero, Nat.zero_add]
  rfl
theorem decode_wid (n b0 b1 b2 b3 : Nat) (h : 0 < n) : (Lib.decodeN n b0 b1 b2 b3).2 ≤ n ∧ 1 ≤ (Lib.decodeN n b0 b1 b2 b3).2 := by
  unfold Lib.decodeN
  repeat' split
  all_goals (simp only; omega)
theorem utf8_step (s : ByteArray) (h : 0 < s.size) : utf8B s = (if (runeB s).2 = 0 then false else utf8B (s.extract (runeB s).2 s.size)) ∧ (runeB s).2 ≤ s.size := by
  have e1 : s.data.toList.length = s.size := by simp
  have hne : s.data.toList ≠ [] := by
    intro e
    rw [e] at e1
    simp at e1
    omega
  have hsz : ¬ s.size = 0 := by omega
  have hw := decode_wid s.size (byteAt s 0) (byteAt s 1) (byteAt s 2) (byteAt s 3) h
  have hs := Lib.validD_step _ hne
  rw [decode_bytes] at hs
  obtain ⟨d, hd⟩ : ∃ d, Lib.decodeN s.size (byteAt s 0) (byteAt s 1) (byteAt s 2) (byteAt s 3) = d := ⟨_, rfl⟩
  have hr : runeB s = if d.1 = 65533 ∧ d.2 = 1 then (0, 0) else d := by rw [runeB, runeN, if_neg hsz, hd]
  rw [hd] at hs hw
  by_cases hf : d.1 = 65533 ∧ d.2 = 1
  · rw [if_pos hf] at hs hr
    rw [hr]
    exact ⟨hs, Nat.zero_le _⟩
  · rw [if_neg hf] at hs hr
    have h2 : ¬ d.2 = 0 := by omega
    rw [hr, if_neg h2, utf8B, hs, utf8B]
    refine ⟨?_, hw.1⟩
    congr 1
    simp only [ByteArray.data_extract, Array.toList_extract, List.extract_eq_take_drop]
    rw [List.take_of_length_le]
    rw [List.length_drop, e1]
    exact Nat.le_refl _
theorem utf8_nil : utf8B ⟨#[]⟩ = true := rfl
def D.tsz : D → Nat
  | .v (.string s) => s.size
  | _ => 0
set_option maxHeartbeats 4000000 in
theorem utf8T (s : ByteArray) (hs : s.size ≤ 9223372036854775807) (σ : St) : Tri Tryd.prog 16 [.s s] σ fun d τ => d = .b (utf8B s) ∧ τ = σ := by
  refine tri_fn Tryd.func16 rfl Tryd.ntmps16 Tryd.results16 (Nat.le_of_ble_eq_true rfl) ?_
  refine' wlk0
  refine awp_loopM [0, 2, 3, 4, 5, 6, 7, 8, 9, 10, 11, 12, 13, 14, 15, 16] (fun X τ => ∃ t : ByteArray, X 0 = .s t ∧ utf8B s = utf8B t ∧ t.size ≤ s.size ∧ τ = σ) (fun X _ => (X 0).tsz) ?_ ?_
  · refine .same ⟨mix_self _ _, s, ?_, rfl, Nat.le_refl _, rfl⟩
    simp [*]
  · rintro X τ ⟨t, h0, he, hz, rfl⟩ _ hL
    have HE := Lib.hid he
    clear he
    by_cases hn : t = ⟨#[]⟩
    · subst hn
      refine' wlk0
      ((try simp [*]); (try simp (discharger := omega) only [wrap_i64, dec_t, dec_f]))
      exact .same ⟨by rw [HE.out, utf8_nil], rfl⟩
    · have hpos : 0 < t.size := by
        rcases Nat.eq_zero_or_pos t.size with h | h
        · exact absurd (bytes_ext (by
            have : t.data.toList.length = 0 := by simpa using h
            simp [List.eq_nil_of_length_eq_zero this])) hn
        · exact h
      obtain ⟨hst, hle⟩ := utf8_step t hpos
      have hrt := Lib.hid (runeT t (by omega))
      obtain ⟨⟨r, n⟩, hr⟩ : ∃ r, runeB t = r := ⟨_, rfl⟩
      rw [hr] at hst hle hrt
      simp only at hst hle hrt
      have HST := Lib.hid hst
      clear hst hr
      by_cases hz0 : n = 0
      · subst hz0
        refine' wlk1 hrt.out
        ((try simp [*]); (try simp (discharger := omega) only [wrap_i64, dec_t, dec_f]))
        exact .same ⟨by rw [HE.out, HST.out, if_pos rfl], rfl⟩
      · have hz1 : ¬ (n : Int) = 0 := by omega
        refine' wlk1 hrt.out
        refine hL.out _ _ (.same ⟨mixT, ⟨t.extract n t.size, ?_, ?_, ?_, rfl⟩, ?_⟩)
        · simp [*]
        · rw [HE.out, HST.out, if_neg hz0]
        · simp; omega
        · simp [*, D.tsz]; omega
end Go.Proofs.YtmjendeigjdihaaDoor
/-
  What is wrong with a value (chapter 1), told.
-/
namespace Go.Proofs.YtmjendeigjdihaaDoor
open Go.RowKit
set_option maxRecDepth 100000
set_option linter.unusedVariables false
set_option linter.unusedSimpArgs false
attribute [local irreducible] awp aops aop aput aseq ablock TriX Tri Ret Fresh dq adraw dtail dals dfin Wk

def kless (a b : ByteArray) : Bool := Op.bytesLess a.toList b.toList
def memE (prev : Option ByteArray) (k : ByteArray) (e : ErT) : ErT :=
  if utf8B k = false then ErT.err 5 else match prev with
    | .none => e
    | some p => if k = p then ErT.err 6 else if kless k p = true then ErT.err 1 else e
mutual
def V.chk : V → Nat → ErT
  | .mk k _ i t l m, deep =>
    if k = 0 ∨ k = 1 then ErT.none
    else if k = 2 then (if 9007199254740991 < i ∨ i < -9007199254740991 then ErT.err 4 else ErT.none)
    else if k = 3 then (if utf8B t = true then ErT.none else ErT.err 5)
    else if k = 4 then (if deep = 20 then ErT.err 3 else V.chkL l (deep + 1) 0)
    else if k = 5 then (if deep = 20 then ErT.err 3 else V.chkM m (deep + 1) none)
    else ErT.err 9
def V.chkL : List V → Nat → Nat → ErT
  | [], _, _ => ErT.none
  | x :: l, deep, at_ => if (x.chk deep).code = 0 then V.chkL l deep (at_ + 1) else ErT.in_ (digB at_) (x.chk deep)
def V.chkM : List (ByteArray × V) → Nat → Option ByteArray → ErT
  | [], _, _ => ErT.none
  | (k, x) :: m, deep, prev => if (memE prev k (x.chk deep)).code = 0 then V.chkM m deep (some k) else ErT.in_ k (memE prev k (x.chk deep))
end
theorem V.chkL_drop {l : List V} {k : Nat} (h : k < l.length) (deep : Nat) : V.chkL (l.drop k) deep k = if (l[k].chk deep).code = 0 then V.chkL (l.drop (k + 1)) deep (k + 1) else ErT.in_ (digB k) (l[k].chk deep) := by
  rw [List.drop_eq_getElem_cons h, V.chkL]
def prevK (m : List (ByteArray × V)) (k : Nat) : Option ByteArray := if h : 0 < k ∧ k ≤ m.length then some (m[k - 1]'(by omega)).1 else none
theorem prevK_succ {m : List (ByteArray × V)} {k : Nat} (h : k < m.length) : prevK m (k + 1) = some m[k].1 := by
  rw [prevK, dif_pos ⟨by omega, h⟩]
  rfl
theorem V.chkM_drop {m : List (ByteArray × V)} {k : Nat} (h : k < m.length) (deep : Nat) (prev : Option ByteArray) : V.chkM (m.drop k) deep prev = if (memE prev m[k].1 (m[k].2.chk deep)).code = 0 then V.chkM (m.drop (k + 1)) deep (some m[k].1) else ErT.in_ m[k].1 (memE prev m[k].1 (m[k].2.chk deep)) := by
  rw [List.drop_eq_getElem_cons h, V.chkM]
theorem digB_size (n : Nat) (h : n < 10000000000000000) : (digB n).size ≤ 16 := by
  have := Lib.decDigits_length n
  have e : (digB n).size = (Lib.decDigits n).length := by simp [digB, ByteArray.size]
  rw [e]
  have hl : ∀ (k n : Nat), n < 10 ^ (k + 1) → (Lib.decDigits n).length ≤ k + 1 := by
    intro k
    induction k with
    | zero =>
      intro n hn
      rw [Lib.decDigits, dif_pos (by simpa using hn)]
      exact Nat.le_refl _
    | succ k ih =>
      intro n hn
      rw [Lib.decDigits]
      by_cases h10 : n < 10
      · rw [dif_pos h10]
        simp
      · rw [dif_neg h10, List.length_append]
        have := ih (n / 10) (by rw [Nat.pow_succ] at hn; omega)
        simp only [List.length_cons, List.length_nil]
        omega
  have e16 : (10000000000000000 : Nat) = 10 ^ (15 + 1) := rfl
  exact hl 15 n (e16 ▸ h)
theorem in_path (f : ByteArray) (e : ErT) (n : Nat) (hf : f.size + 1 ≤ 140737488355328) (he : e.path.size ≤ n * 140737488355328) : (ErT.in_ f e).path.size ≤ (n + 1) * 140737488355328 := by
  rw [ErT.in_]
  by_cases hc : e.code = 0
  · rw [if_pos hc]; exact Nat.le_trans he (Nat.mul_le_mul_right _ (Nat.le_succ n))
  · rw [if_neg hc]
    have e1 : (ByteArray.mk #[47]).size = 1 := rfl
    simp only [ByteArray.size_append, e1]
    omega
theorem mem_path (prev : Option ByteArray) (k : ByteArray) (e : ErT) (n : Nat) (he : e.path.size ≤ n) : (memE prev k e).path.size ≤ n := by
  unfold memE
  split
  · exact Nat.zero_le _
  · split
    · exact he
    · split
      · exact Nat.zero_le _
      · split
        · exact Nat.zero_le _
        · exact he
theorem V.chk_path (v : V) (deep : Nat) (hd : deep ≤ 20) (hv : v.ok) : (v.chk deep).path.size ≤ (20 - deep) * 140737488355328 := by
  obtain ⟨N, hN⟩ : ∃ N, N = v.w := ⟨_, rfl⟩
  induction N using Nat.strongRecOn generalizing v deep with
  | _ N ih =>
    obtain ⟨kd, y, i, t, l, m⟩ := v
    subst hN
    rw [V.w] at ih
    rw [V.ok] at hv
    obtain ⟨ht, hl, hm, hls, hms⟩ := hv
    have hL : ∀ l' : List V, (∀ x ∈ l', x ∈ l) → ∀ at_, at_ + l'.length ≤ l.length → deep < 20 → (V.chkL l' (deep + 1) at_).path.size ≤ (20 - deep) * 140737488355328 := by
      intro l'
      induction l' with
      | nil => intro _ _ _ _; exact Nat.zero_le _
      | cons x l' ihl =>
        intro hin at_ hat hd'
        rw [V.chkL]
        rw [List.length_cons] at hat
        split
        · exact ihl (fun z hz => hin z (List.mem_cons_of_mem _ hz)) _ (by omega) hd'
        · have hx := hin x List.mem_cons_self
          have := in_path (digB at_) _ _ (by have := digB_size at_ (by omega); omega) (ih x.w (by have := V.ws_mem hx; omega) x (deep + 1) (by omega) (V.oks_mem hls hx) rfl)
          rwa [show 20 - (deep + 1) + 1 = 20 - deep by omega] at this
    have hM : ∀ m' : List (ByteArray × V), (∀ x ∈ m', x ∈ m) → ∀ prev, deep < 20 → (V.chkM m' (deep + 1) prev).path.size ≤ (20 - deep) * 140737488355328 := by
      intro m'
      induction m' with
      | nil => intro _ _ _; exact Nat.zero_le _
      | cons x m' ihm =>
        obtain ⟨k, x⟩ := x
        intro hin prev hd'
        rw [V.chkM]
        split
        · exact ihm (fun z hz => hin z (List.mem_cons_of_mem _ hz)) _ hd'
        · have hx := hin (k, x) List.mem_cons_self
          have hk := (V.okm_mem hms hx).1
          have := in_path k (memE prev k (x.chk (deep + 1))) _ (by simp only at hk; omega) (mem_path _ _ _ _ (ih x.w (by have := V.wm_mem hx; simp only at this; omega) x (deep + 1) (by omega) (V.okm_mem hms hx).2 rfl))
          rwa [show 20 - (deep + 1) + 1 = 20 - deep by omega] at this
    rw [V.chk]
    repeat' split
    all_goals first
      | exact Nat.zero_le _
      | exact hL l (fun _ h => h) 0 (by omega) (by omega)
      | exact hM m (fun _ h => h) _ (by omega)
end Go.Proofs.YtmjendeigjdihaaDoor
/-
  Errors (chapter 1), as the program has them.
-/
namespace Go.Proofs.YtmjendeigjdihaaDoor
open Go.RowKit
set_option maxRecDepth 100000
set_option linter.unusedVariables false
set_option linter.unusedSimpArgs false
attribute [local irreducible] awp aops aop aput aseq ablock TriX Tri Ret Fresh dq adraw dtail dals dfin Wk

/-- An error of the program: a code, or a fault about one. -/
inductive Er where
  | code (c : Int)
  | fault (at_ : Int) (field : ByteArray) (why : Er)
def Er.d : Er → D
  | .code c => .iface 56 (.i c)
  | .fault a f w => .iface 79 (.ptr [.i a, .s f, w.d])
def erD : Option Er → D
  | none => .v .nilIface
  | some e => e.d
theorem inErT (f : ByteArray) (e : Er) (σ : St) : Tri Tryd.prog 45 [.s f, e.d] σ fun d τ => d = (Er.fault (-1) f e).d ∧ τ = σ := by
  obtain ⟨t, x, hd⟩ : ∃ t x, e.d = .iface t x := by cases e <;> exact ⟨_, _, rfl⟩
  rw [Er.d, hd]
  refine tri_fn Tryd.func45 rfl Tryd.ntmps45 Tryd.results45 (Nat.le_of_ble_eq_true rfl) ?_
  refine' wlk0
  ((try simp [*]); (try simp (discharger := omega) only [wrap_i64, dec_t, dec_f]))
  exact Ret.freeze _ (own_same _ _ _) trivial _ (.iface _ _ _ (.box _ _ 0 rfl)) (.mk _ σ (.refl _) (by rw [set_set, set_none (by assumption)]; exact St.le_refl _) ⟨rfl, rfl⟩)
/-- Its innermost code. -/
def Er.inner : Er → Int
  | .code c => c
  | .fault _ _ w => w.inner
/-- As it is told: from the outside in. -/
def Er.tell (at_ : Int) (path : ByteArray) : Er → Int × ByteArray
  | .code _ => (at_, path)
  | .fault a f w => w.tell (if 0 ≤ a ∧ at_ < 0 then a else at_) (if ¬ f = ⟨#[]⟩ ∨ a < 0 then path ++ (ByteArray.mk #[47] ++ f) else path)
def told : Option Er → ErT
  | none => ErT.none
  | some e => ⟨e.inner, (e.tell (-1) ByteArray.empty).1, (e.tell (-1) ByteArray.empty).2⟩
/-- .. what is wrong, as the program has it. -/
def mapIn (f : ByteArray) (e : Er) : Option Er := some (.fault (-1) f e)
def memP (prev : Option ByteArray) (k : ByteArray) (e : Option Er) : Option Er :=
  if utf8B k = false then some (.code 5) else match prev with
    | none => e
    | some p => if cmpB p k = 0 then some (.code 6) else if cmpB p k = 1 then some (.code 1) else e
mutual
def V.chkP : V → Nat → Option Er
  | .mk k _ i t l m, deep =>
    if k = 0 ∨ k = 1 then none
    else if k = 2 then (if 9007199254740991 < i ∨ i < -9007199254740991 then some (.code 4) else none)
    else if k = 3 then (if utf8B t = true then none else some (.code 5))
    else if k = 4 then (if deep = 20 then some (.code 3) else V.chkPL l (deep + 1) 0)
    else if k = 5 then (if deep = 20 then some (.code 3) else V.chkPM m (deep + 1) none)
    else some (.code 9)
def V.chkPL : List V → Nat → Nat → Option Er
  | [], _, _ => none
  | x :: l, deep, at_ => match x.chkP deep with
    | none => V.chkPL l deep (at_ + 1)
    | some e => some (.fault (-1) (digB at_) e)
def V.chkPM : List (ByteArray × V) → Nat → Option ByteArray → Option Er
  | [], _, _ => none
  | (k, x) :: m, deep, prev => match memP prev k (x.chkP deep) with
    | none => V.chkPM m deep (some k)
    | some e => some (.fault (-1) k e)
end
/-- A path that is told stands behind what is told ahead. -/
theorem Er.tell_path : ∀ (e : Er) (a : Int) (p : ByteArray), (e.tell a p).2 = p ++ (e.tell a ByteArray.empty).2
  | .code _, a, p => by simp [Er.tell]
  | .fault b f w, a, p => by
    simp only [Er.tell]
    by_cases hc : ¬ f = ⟨#[]⟩ ∨ b < 0
    · rw [if_pos hc, if_pos hc, Er.tell_path w _ (p ++ _), Er.tell_path w _ (ByteArray.empty ++ _)]
      simp [ByteArray.append_assoc]
    · rw [if_neg hc, if_neg hc]
      exact Er.tell_path w _ p
theorem told_in (f : ByteArray) (e : Er) (h : ¬ e.inner = 0) : told (some (.fault (-1) f e)) = ErT.in_ f (told (some e)) := by
  have h2 : ErT.in_ f (told (some e)) = ⟨e.inner, (e.tell (-1) ByteArray.empty).1, ByteArray.mk #[47] ++ f ++ (e.tell (-1) ByteArray.empty).2⟩ := if_neg h
  have h1 : told (some (.fault (-1) f e)) = ⟨e.inner, (e.tell (-1) (ByteArray.empty ++ (ByteArray.mk #[47] ++ f))).1, (e.tell (-1) (ByteArray.empty ++ (ByteArray.mk #[47] ++ f))).2⟩ := by
    simp only [told, Er.tell, Er.inner]
    rw [if_neg (by omega), if_pos (.inr (by omega))]
  have h3 : ∀ (e : Er) (a : Int) (p q : ByteArray), (e.tell a p).1 = (e.tell a q).1 := by
    intro e
    induction e with
    | code c => intro a p q; rfl
    | fault b f w ih => intro a p q; exact ih _ _ _
  rw [h1, h2, Er.tell_path, h3 e (-1) _ ByteArray.empty]
  simp
theorem cmp_zero : ∀ a b : List UInt8, Lib.compareBytes a b = 0 ↔ a = b
  | [], [] => by simp [Lib.compareBytes]
  | [], _ :: _ => by simp [Lib.compareBytes]
  | _ :: _, [] => by simp [Lib.compareBytes]
  | a :: xs, b :: ys => by
    rw [Lib.compareBytes]
    by_cases h1 : a < b
    · rw [if_pos h1]
      have : a ≠ b := by rintro rfl; exact absurd h1 (by simp)
      simp [this]
    · rw [if_neg h1]
      by_cases h2 : b < a
      · rw [if_pos h2]
        have : a ≠ b := by rintro rfl; exact absurd h2 (by simp)
        simp [this]
      · rw [if_neg h2, cmp_zero xs ys]
        have : a = b := by
          have h1' : ¬ a.toNat < b.toNat := h1
          have h2' : ¬ b.toNat < a.toNat := h2
          exact UInt8.toNat_inj.1 (by omega)
        simp [this]
theorem cmp_one : ∀ a b : List UInt8, Lib.compareBytes a b = 1 ↔ Op.bytesLess b a = true
  | [], [] => by simp [Lib.compareBytes, Op.bytesLess]
  | [], _ :: _ => by simp [Lib.compareBytes, Op.bytesLess]
  | _ :: _, [] => by simp [Lib.compareBytes, Op.bytesLess]
  | a :: xs, b :: ys => by
    rw [Lib.compareBytes, Op.bytesLess]
    by_cases h1 : a < b
    · rw [if_pos h1]
      have h2 : ¬ b < a := by
        have h1' : a.toNat < b.toNat := h1
        intro h
        have h' : b.toNat < a.toNat := h
        omega
      have : ¬ b = a := by rintro rfl; exact absurd h1 (by simp)
      simp [h2, this]
    · rw [if_neg h1]
      by_cases h2 : b < a
      · rw [if_pos h2]; simp [h2]
      · rw [if_neg h2, cmp_one xs ys]
        have : b = a := by
          have h1' : ¬ a.toNat < b.toNat := h1
          have h2' : ¬ b.toNat < a.toNat := h2
          exact UInt8.toNat_inj.1 (by omega)
        simp [this]
theorem cmpB_zero (p k : ByteArray) : cmpB p k = 0 ↔ k = p := by
  rw [cmpB, cmp_zero]
  exact ⟨fun h => (bytes_ext h).symm, fun h => by rw [h]⟩
theorem cmpB_one (p k : ByteArray) : cmpB p k = 1 ↔ kless k p = true := by
  rw [cmpB, cmp_one, kless, Lib.toList_data, Lib.toList_data]
/-- An error whose innermost code is one. -/
def Real' (e : Option Er) : Prop := ∀ x, e = some x → ¬ x.inner = 0
theorem told_mem (prev : Option ByteArray) (k : ByteArray) (e : Option Er) (h : Real' e) : told (memP prev k e) = memE prev k (told e) ∧ Real' (memP prev k e) := by
  have c : ∀ n : Int, ¬ n = 0 → told (some (.code n)) = ErT.err n ∧ Real' (some (.code n)) := fun n hn => ⟨rfl, fun x hx => by cases hx; exact hn⟩
  unfold memP memE
  by_cases hu : utf8B k = false
  · rw [if_pos hu, if_pos hu]; exact c 5 (by decide)
  · rw [if_neg hu, if_neg hu]
    cases prev with
    | none => exact ⟨rfl, h⟩
    | some p =>
      simp only [cmpB_zero, cmpB_one]
      by_cases h1 : k = p
      · rw [if_pos h1, if_pos h1]; exact c 6 (by decide)
      · rw [if_neg h1, if_neg h1]
        by_cases h2 : kless k p = true
        · rw [if_pos h2, if_pos h2]; exact c 1 (by decide)
        · rw [if_neg h2, if_neg h2]; exact ⟨rfl, h⟩
theorem V.told_chk (v : V) (deep : Nat) : told (v.chkP deep) = v.chk deep ∧ Real' (v.chkP deep) := by
  obtain ⟨N, hN⟩ : ∃ N, N = v.w := ⟨_, rfl⟩
  induction N using Nat.strongRecOn generalizing v deep with
  | _ N ih =>
    obtain ⟨kd, y, i, t, l, m⟩ := v
    subst hN
    rw [V.w] at ih
    have hn : told none = ErT.none ∧ Real' none := ⟨rfl, fun x hx => by cases hx⟩
    have c : ∀ n : Int, ¬ n = 0 → told (some (.code n)) = ErT.err n ∧ Real' (some (.code n)) := fun n hn => ⟨rfl, fun x hx => by cases hx; exact hn⟩
    have hL : ∀ l' : List V, (∀ x ∈ l', x ∈ l) → ∀ at_, told (V.chkPL l' (deep + 1) at_) = V.chkL l' (deep + 1) at_ ∧ Real' (V.chkPL l' (deep + 1) at_) := by
      intro l'
      induction l' with
      | nil => intro _ _; rw [V.chkPL, V.chkL]; exact hn
      | cons x l' ihl =>
        intro hin at_
        rw [V.chkPL, V.chkL]
        have hx := hin x List.mem_cons_self
        obtain ⟨h1, h2⟩ := ih x.w (by have := V.ws_mem hx; omega) x (deep + 1) rfl
        rw [← h1]
        cases he : x.chkP (deep + 1) with
        | none => rw [if_pos (show (told none).code = 0 from rfl)]; exact ihl (fun z hz => hin z (List.mem_cons_of_mem _ hz)) _
        | some e =>
          have hne := h2 e he
          rw [if_neg (show ¬ (told (some e)).code = 0 from hne), ← told_in _ _ hne]
          exact ⟨rfl, fun z hz => by cases hz; exact hne⟩
    have hM : ∀ m' : List (ByteArray × V), (∀ x ∈ m', x ∈ m) → ∀ prev, told (V.chkPM m' (deep + 1) prev) = V.chkM m' (deep + 1) prev ∧ Real' (V.chkPM m' (deep + 1) prev) := by
      intro m'
      induction m' with
      | nil => intro _ _; rw [V.chkPM, V.chkM]; exact hn
      | cons x m' ihm =>
        obtain ⟨k, x⟩ := x
        intro hin prev
        rw [V.chkPM, V.chkM]
        have hx := hin (k, x) List.mem_cons_self
        obtain ⟨h1, h2⟩ := ih x.w (by have := V.wm_mem hx; simp only at this; omega) x (deep + 1) rfl
        obtain ⟨h3, h4⟩ := told_mem prev k _ h2
        rw [← h1, ← h3]
        cases he : memP prev k (x.chkP (deep + 1)) with
        | none => rw [if_pos (show (told none).code = 0 from rfl)]; exact ihm (fun z hz => hin z (List.mem_cons_of_mem _ hz)) _
        | some e =>
          have hne := h4 e he
          rw [if_neg (show ¬ (told (some e)).code = 0 from hne), ← told_in _ _ hne]
          exact ⟨rfl, fun z hz => by cases hz; exact hne⟩
    rw [V.chkP, V.chk]
    repeat' split
    all_goals first
      | exact hn
      | exact c _ (by decide)
      | exact hL l (fun _ h => h) 0
      | exact hM m (fun _ h => h) _
end Go.Proofs.YtmjendeigjdihaaDoor
/-
  A stable sort (chapter 1): lists; two members compared; the sort by insertion.
-/
namespace Go.Proofs.YtmjendeigjdihaaDoor
open Go.RowKit
set_option maxRecDepth 100000
set_option linter.unusedVariables false
set_option linter.unusedSimpArgs false
attribute [local irreducible] awp aops aop aput aseq ablock TriX Tri Ret Fresh dq adraw dtail dals dfin Wk

/-- A member. -/
abbrev Mem := ByteArray × V
def mD (x : Mem) : List D := .s x.1 :: x.2.d
@[simp] theorem mD_len (x : Mem) : (mD x).length = 7 := by simp [mD]
@[simp] theorem mD_take (x : Mem) : (mD x).take 7 = mD x := List.take_of_length_le (by simp)
@[simp] theorem mD_drop (x : Mem) : (mD x).drop 7 = [] := List.drop_eq_nil_of_le (by simp)
/-- Less, by the keys. -/
def klt (x y : Mem) : Bool := kless x.1 y.1
theorem bless_irr : ∀ a : List UInt8, Op.bytesLess a a = false
  | [] => rfl
  | x :: a => by
    have := bless_irr a
    simp [Op.bytesLess, this]
theorem bless_trans : ∀ a b c : List UInt8, Op.bytesLess a b = true → Op.bytesLess b c = true → Op.bytesLess a c = true
  | [], [], _, h, _ => by simp [Op.bytesLess] at h
  | [], _ :: _, [], _, h => by simp [Op.bytesLess] at h
  | [], _ :: _, _ :: _, _, _ => by simp [Op.bytesLess]
  | _ :: _, [], _, h, _ => by simp [Op.bytesLess] at h
  | _ :: _, _ :: _, [], _, h => by simp [Op.bytesLess] at h
  | x :: a, y :: b, z :: c, h1, h2 => by
    simp only [Op.bytesLess, Bool.or_eq_true, decide_eq_true_eq, Bool.and_eq_true, beq_iff_eq] at h1 h2 ⊢
    rcases h1 with h1 | ⟨e1, h1⟩
    · rcases h2 with h2 | ⟨e2, h2⟩
      · exact .inl (Nat.lt_trans (show x.toNat < y.toNat from h1) (show y.toNat < z.toNat from h2))
      · subst e2; exact .inl h1
    · subst e1
      rcases h2 with h2 | ⟨e2, h2⟩
      · exact .inl h2
      · exact .inr ⟨e2, bless_trans a b c h1 h2⟩
theorem bless_tri : ∀ a b : List UInt8, Op.bytesLess a b = false → Op.bytesLess b a = false → a = b
  | [], [], _, _ => rfl
  | [], _ :: _, h, _ => by simp [Op.bytesLess] at h
  | _ :: _, [], _, h => by simp [Op.bytesLess] at h
  | x :: a, y :: b, h1, h2 => by
    simp only [Op.bytesLess, Bool.or_eq_false_iff, decide_eq_false_iff_not, Bool.and_eq_false_iff, beq_eq_false_iff_ne] at h1 h2
    have h1' : ¬ x.toNat < y.toNat := h1.1
    have h2' : ¬ y.toNat < x.toNat := h2.1
    have e : x = y := UInt8.toNat_inj.1 (by omega)
    subst e
    rw [bless_tri a b (h1.2.resolve_left (by simp)) (h2.2.resolve_left (by simp))]
theorem klt_irr (x : Mem) : klt x x = false := bless_irr _
theorem klt_trans {x y z : Mem} (h1 : klt x y = true) (h2 : klt y z = true) : klt x z = true := bless_trans _ _ _ h1 h2
theorem klt_tri {x y : Mem} (h1 : klt x y = false) (h2 : klt y x = false) : x.1 = y.1 := by
  have := bless_tri _ _ h1 h2
  rw [Lib.toList_data, Lib.toList_data] at this
  exact bytes_ext this
theorem klt_asym {x y : Mem} (h : klt x y = true) : klt y x = false := by
  cases hq : klt y x with
  | false => rfl
  | true => have := klt_trans h hq; rw [klt_irr] at this; cases this
/-- x is not behind y. -/
def kle (x y : Mem) : Prop := klt y x = false
theorem kle_of_lt {x y : Mem} (h : klt x y = true) : kle x y := klt_asym h
theorem kle_refl (x : Mem) : kle x x := klt_irr x
theorem kle_trans {x y z : Mem} (h1 : kle x y) (h2 : kle y z) : kle x z := by
  unfold kle at *
  cases h : klt z x with
  | false => rfl
  | true =>
    cases h3 : klt x y with
    | true => have := klt_trans h h3; rw [h2] at this; cases this
    | false =>
      have e := klt_tri h3 h1
      have : klt z y = true := by unfold klt at h ⊢; rw [← e]; exact h
      rw [h2] at this; cases this
theorem klt_of_lt_le {x y z : Mem} (h1 : klt x y = true) (h2 : kle y z) : klt x z = true := by
  cases h3 : klt x z with
  | true => rfl
  | false =>
    have : kle z x := h3
    have h4 := kle_trans h2 this
    unfold kle at h4
    rw [h4] at h1; cases h1
theorem klt_of_le_lt {x y z : Mem} (h1 : kle x y) (h2 : klt y z = true) : klt x z = true := by
  cases h3 : klt x z with
  | true => rfl
  | false =>
    have : kle z x := h3
    have h4 := kle_trans this h1
    unfold kle at h4
    rw [h4] at h2; cases h2
/-- Of any key the same members, in the same order. -/
def StPerm (l r : List Mem) : Prop := ∀ q : ByteArray, l.filter (fun x => decide (x.1 = q)) = r.filter (fun x => decide (x.1 = q))
theorem StPerm.refl (l : List Mem) : StPerm l l := fun _ => rfl
theorem StPerm.symm {l r : List Mem} (h : StPerm l r) : StPerm r l := fun q => (h q).symm
theorem StPerm.trans {l r s : List Mem} (h : StPerm l r) (k : StPerm r s) : StPerm l s := fun q => (h q).trans (k q)
theorem StPerm.append {l l' r r' : List Mem} (h : StPerm l l') (k : StPerm r r') : StPerm (l ++ r) (l' ++ r') := fun q => by rw [List.filter_append, List.filter_append, h q, k q]
theorem StPerm.mem {l r : List Mem} (h : StPerm l r) {x : Mem} : x ∈ l ↔ x ∈ r := by
  have := h x.1
  constructor
  · intro hx
    have h1 : x ∈ l.filter (fun y => decide (y.1 = x.1)) := List.mem_filter.2 ⟨hx, by simp⟩
    rw [this] at h1
    exact (List.mem_filter.1 h1).1
  · intro hx
    have h1 : x ∈ r.filter (fun y => decide (y.1 = x.1)) := List.mem_filter.2 ⟨hx, by simp⟩
    rw [← this] at h1
    exact (List.mem_filter.1 h1).1
theorem filter_none {q : ByteArray} {l : List Mem} (h : ∀ x ∈ l, ¬ x.1 = q) : l.filter (fun x => decide (x.1 = q)) = [] := List.filter_eq_nil_iff.2 fun x hx => by simpa using h x hx
theorem klt_ne {x y : Mem} (h : klt x y = true) : ¬ x.1 = y.1 := fun e => by
  have : klt x x = true := by unfold klt at h ⊢; rw [← e] at h; exact h
  rw [klt_irr] at this; cases this
/-- Two pieces change places, if the second is before the first. -/
theorem StPerm.swap {l r : List Mem} (h : ∀ x ∈ l, ∀ y ∈ r, klt y x = true) : StPerm (l ++ r) (r ++ l) := fun q => by
  rw [List.filter_append, List.filter_append]
  by_cases hl : ∃ x ∈ l, x.1 = q
  · obtain ⟨x, hx, rfl⟩ := hl
    rw [filter_none (l := r) fun y hy => klt_ne (h x hx y hy), List.append_nil, List.nil_append]
  · rw [filter_none (l := l) fun y hy e => hl ⟨y, hy, e⟩, List.append_nil, List.nil_append]
def Sorted (l : List Mem) : Prop := l.Pairwise kle
theorem sorted_append {l r : List Mem} : Sorted (l ++ r) ↔ Sorted l ∧ Sorted r ∧ ∀ x ∈ l, ∀ y ∈ r, kle x y := List.pairwise_append
theorem stperm_nil {l : List Mem} (h : StPerm [] l) : l = [] := by
  cases l with
  | nil => rfl
  | cons x l => have := (h.mem (x := x)).2 List.mem_cons_self; cases this
/-- What is sorted is one. -/
theorem sorted_once : ∀ {l r : List Mem}, Sorted l → Sorted r → StPerm l r → l = r
  | [], r, _, _, h => (stperm_nil h).symm
  | x :: l, [], _, _, h => stperm_nil h.symm
  | x :: l, y :: r, h1, h2, h => by
    have hx := (h.mem (x := x)).1 List.mem_cons_self
    have hy := (h.mem (x := y)).2 List.mem_cons_self
    have a1 : kle x y := by
      rcases List.mem_cons.1 hy with e | hy
      · rw [e]; exact kle_refl _
      · exact (List.pairwise_cons.1 h1).1 y hy
    have a2 : kle y x := by
      rcases List.mem_cons.1 hx with e | hx
      · rw [e]; exact kle_refl _
      · exact (List.pairwise_cons.1 h2).1 x hx
    have e : x.1 = y.1 := klt_tri a2 a1
    have hq := h x.1
    rw [List.filter_cons_of_pos (by simp), List.filter_cons_of_pos (by simp [e])] at hq
    injection hq with e1 e2
    subst e1
    congr 1
    refine sorted_once (List.pairwise_cons.1 h1).2 (List.pairwise_cons.1 h2).2 (fun q => ?_)
    have := h q
    by_cases hq : x.1 = q
    · rw [List.filter_cons_of_pos (by simp [hq]), List.filter_cons_of_pos (by simp [hq])] at this
      injection this
    · rw [List.filter_cons_of_neg (by simp [hq]), List.filter_cons_of_neg (by simp [hq])] at this
      exact this
theorem stperm_len {l r : List Mem} (h : StPerm l r) : l.length = r.length := by
  induction l generalizing r with
  | nil => rw [stperm_nil h]
  | cons x l ih =>
    have hx := (h.mem (x := x)).1 List.mem_cons_self
    obtain ⟨r1, y, r2, rfl, hy, hn⟩ : ∃ r1 y r2, r = r1 ++ y :: r2 ∧ y.1 = x.1 ∧ ∀ z ∈ r1, ¬ z.1 = x.1 := by
      clear h ih
      induction r with
      | nil => cases hx
      | cons z r ihr =>
        by_cases hz : z.1 = x.1
        · exact ⟨[], z, r, rfl, hz, by simp⟩
        · rcases List.mem_cons.1 hx with e | hx
          · exact absurd (by rw [e]) hz
          · obtain ⟨r1, y, r2, rfl, h2, h3⟩ := ihr hx
            exact ⟨z :: r1, y, r2, rfl, h2, fun w hw => by
              rcases List.mem_cons.1 hw with rfl | hw
              · exact hz
              · exact h3 w hw⟩
    have hs : StPerm l (r1 ++ r2) := fun q => by
      have := h q
      rw [List.filter_append] at this ⊢
      by_cases hq : x.1 = q
      · rw [List.filter_cons_of_pos (by simp [hq]), filter_none (l := r1) (fun z hz e => hn z hz (by rw [e, hq])), List.nil_append, List.filter_cons_of_pos (by simp [hy, hq])] at this
        injection this with _ this
        rw [this, filter_none (l := r1) (fun z hz e => hn z hz (by rw [e, hq])), List.nil_append]
      · rw [List.filter_cons_of_neg (by simp [hq]), List.filter_cons_of_neg (by simp [hy, hq])] at this
        exact this
    have := ih hs
    simp at this ⊢
    omega
theorem get_at {α : Type} (u : List α) (y : α) (v : List α) : (u ++ y :: v)[u.length]? = some y := by simp
theorem get_at' {α : Type} (u : List α) (y : α) (v : List α) {i : Nat} (h : i = u.length) : (u ++ y :: v)[i]? = some y := by rw [h]; simp
theorem set_at' {α : Type} (u : List α) (y z : α) (v : List α) {i : Nat} (h : i = u.length) : (u ++ y :: v).set i z = u ++ z :: v := by rw [h]; simp
theorem set_at {α : Type} (u : List α) (y z : α) (v : List α) : (u ++ y :: v).set u.length z = u ++ z :: v := by simp
set_option maxHeartbeats 4000000 in
theorem cmp1T (x y : Mem) (σ : St) : Tri Tryd.prog 43 [.agg (mD x), .agg (mD y)] σ fun d τ => d = .i (cmpB x.1 y.1) ∧ τ = σ := by
  have C := Lib.hid (compareT x.1 y.1)
  obtain ⟨dx, hdx⟩ : ∃ dv, dv = x.2.d := ⟨_, rfl⟩
  have hx6 : dx.length = 6 := hdx ▸ V.d_len x.2
  obtain ⟨dy, hdy⟩ : ∃ dv, dv = y.2.d := ⟨_, rfl⟩
  have hy6 : dy.length = 6 := hdy ▸ V.d_len y.2
  rw [mD, mD, ← hdx, ← hdy]
  clear hdx hdy
  refine tri_fn Tryd.func43 rfl Tryd.ntmps43 Tryd.results43 (Nat.le_of_ble_eq_true rfl) ?_
  refine' wlk1 C.out
  ((try simp [*]); (try simp (discharger := omega) only [wrap_i64, dec_t, dec_f]))
  exact .mk _ σ (.refl _) leT ⟨rfl, rfl⟩
theorem cmpL_range : ∀ a b : List UInt8, Lib.compareBytes a b = -1 ∨ Lib.compareBytes a b = 0 ∨ Lib.compareBytes a b = 1
  | [], [] => by simp [Lib.compareBytes]
  | [], _ :: _ => by simp [Lib.compareBytes]
  | _ :: _, [] => by simp [Lib.compareBytes]
  | a :: xs, b :: ys => by
    rw [Lib.compareBytes]
    split
    · simp
    · split
      · simp
      · exact cmpL_range xs ys
theorem cmpL_flip : ∀ a b : List UInt8, Lib.compareBytes a b = -1 ↔ Lib.compareBytes b a = 1
  | [], [] => by simp [Lib.compareBytes]
  | [], _ :: _ => by simp [Lib.compareBytes]
  | _ :: _, [] => by simp [Lib.compareBytes]
  | a :: xs, b :: ys => by
    rw [Lib.compareBytes, Lib.compareBytes]
    have hab : a.toNat < b.toNat ↔ a < b := Iff.rfl
    have hba : b.toNat < a.toNat ↔ b < a := Iff.rfl
    by_cases h1 : a < b
    · rw [if_pos h1, if_neg (fun h => by have := hab.2 h1; have := hba.2 h; omega), if_pos h1]
      simp
    · by_cases h2 : b < a
      · rw [if_neg h1, if_pos h2, if_pos h2]; simp
      · rw [if_neg h1, if_neg h2, if_neg h2, if_neg h1]
        exact cmpL_flip xs ys
theorem cmpB_range (a b : ByteArray) : cmpB a b = -1 ∨ cmpB a b = 0 ∨ cmpB a b = 1 := cmpL_range _ _
theorem cmpB_flip (a b : ByteArray) : cmpB a b = -1 ↔ cmpB b a = 1 := cmpL_flip _ _
theorem cmp_neg (x y : Mem) : cmpB x.1 y.1 < 0 ↔ klt x y = true := by
  have h1 := cmpB_one y.1 x.1
  have h2 := cmpB_zero x.1 y.1
  have h3 := cmpB_one x.1 y.1
  have hr : cmpB x.1 y.1 = -1 ∨ cmpB x.1 y.1 = 0 ∨ cmpB x.1 y.1 = 1 := cmpB_range _ _
  have hs : cmpB x.1 y.1 = -1 ↔ cmpB y.1 x.1 = 1 := cmpB_flip _ _
  rw [klt, ← h1, ← hs]
  omega
end Go.Proofs.YtmjendeigjdihaaDoor
/-
  A stable sort (chapter 1): by insertion.
-/
namespace Go.Proofs.YtmjendeigjdihaaDoor
open Go.RowKit
set_option maxRecDepth 100000
set_option linter.unusedVariables false
set_option linter.unusedSimpArgs false
attribute [local irreducible] awp aops aop aput aseq ablock TriX Tri Ret Fresh dq adraw dtail dals dfin Wk

theorem ins_perm {L1 M1 M2 : List Mem} {x : Mem} (h : StPerm L1 (M1 ++ M2)) (hx : ∀ y ∈ M2, klt x y = true) : StPerm (L1 ++ [x]) (M1 ++ x :: M2) := by
  refine (h.append (.refl [x])).trans ?_
  rw [List.append_assoc]
  exact StPerm.append (.refl M1) (StPerm.swap (l := M2) (r := [x]) fun y hy z hz => by rw [List.mem_singleton.1 hz]; exact hx y hy)
theorem ins_sorted {M1 M2 : List Mem} {x : Mem} (h : Sorted (M1 ++ M2)) (hx : ∀ y ∈ M2, klt x y = true) (h1 : ∀ M y, M1 = M ++ [y] → kle y x) : Sorted (M1 ++ x :: M2) := by
  obtain ⟨s1, s2, s3⟩ := sorted_append.1 h
  refine sorted_append.2 ⟨s1, List.pairwise_cons.2 ⟨fun y hy => kle_of_lt (hx y hy), s2⟩, fun z hz y hy => ?_⟩
  rcases List.mem_cons.1 hy with rfl | hy
  · rcases List.eq_nil_or_concat M1 with rfl | ⟨M, w, rfl⟩
    · cases hz
    · rw [List.concat_eq_append] at *
      have hw := h1 M w rfl
      rcases List.mem_append.1 hz with hz | hz
      · exact kle_trans ((sorted_append.1 s1).2.2 z hz w (by simp)) hw
      · rw [List.mem_singleton.1 hz]; exact hw
  · exact s3 z hz y hy
/-- A piece of a list is sorted. -/
def SortR (b cap : Nat) (P L S : List Mem) (σ : St) (d : D) (τ : St) : Prop := ∃ M, (StPerm L M ∧ Sorted M) ∧ d = .tup [] ∧ τ = σ.set b (some (.arr 45 7 cap ((P ++ M ++ S).map mD)))
theorem len_cast (P M : List Mem) : ((P.length : Int) + (M.length : Int)) = ((P.length + M.length : Nat) : Int) := by omega
set_option maxHeartbeats 8000000 in
theorem insT (b cap n : Nat) (a e : Int) (P L S : List Mem) (σ : St) (hown1 : σ.own b = some (.arr 45 7 cap ((P ++ L ++ S).map mD))) (ha : a = P.length) (he : e = P.length + L.length) (hn : n = (P ++ L ++ S).length) (hmax : n ≤ 140737488355328) :
    Tri Tryd.prog 72 [.arr b 7 cap 0 n, .i a, .i e, .fn (.func 43) [] []] σ (SortR b cap P L S σ) := by
  simp only [List.length_append] at hn
  rcases L with _ | ⟨x0, L⟩
  · have he' : e = a := by simp at he; omega
    have hb1 : -9223372036854775808 ≤ a + 1 ∧ a + 1 ≤ 9223372036854775807 := by omega
    have hlt : ¬ (a + 1 < a) := by omega
    subst he'
    have HO := Lib.hid hown1
    clear hn he ha hown1
    refine tri_fn Tryd.func72 rfl Tryd.ntmps72 Tryd.results72 (Nat.le_of_ble_eq_true rfl) ?_
    refine' wlk0
    refine awp_loopM [8, 9, 12, 13, 14, 15, 16, 17, 18, 19, 20, 21, 22, 23, 24, 25, 26, 27, 28, 29, 30, 31, 32, 33, 34, 35, 36, 37, 38, 39, 40, 41, 42, 43, 44, 45, 46, 47, 48, 49, 50, 51, 52] (fun X τ => X 8 = .i (e + 1) ∧ τ = σ) (fun X _ => 0) ?_ ?_
    · exact .same ⟨mix_self _ _, by simp [*], rfl⟩
    · rintro X τ ⟨h8, rfl⟩ _ hL
      refine' wlk0
      ((try simp [*]); (try simp (discharger := omega) only [wrap_i64, dec_t, dec_f]))
      exact .same ⟨[], ⟨.refl _, List.Pairwise.nil⟩, rfl, by rw [set_same HO.out]⟩
  · have hb1 : -9223372036854775808 ≤ a + 1 ∧ a + 1 ≤ 9223372036854775807 := by omega
    obtain ⟨pl, hpl⟩ : ∃ pl, pl = P.length := ⟨_, rfl⟩
    rw [← hpl] at ha he hn
    subst ha
    have HN := Lib.hid hn
    have HE := Lib.hid he
    have HO := Lib.hid hown1
    have HP := Lib.hid hpl
    clear hn he hown1 hpl
    refine tri_fn Tryd.func72 rfl Tryd.ntmps72 Tryd.results72 (Nat.le_of_ble_eq_true rfl) ?_
    refine' wlk0
    refine awp_loopM [8, 9, 12, 13, 14, 15, 16, 17, 18, 19, 20, 21, 22, 23, 24, 25, 26, 27, 28, 29, 30, 31, 32, 33, 34, 35, 36, 37, 38, 39, 40, 41, 42, 43, 44, 45, 46, 47, 48, 49, 50, 51, 52] (fun X τ => ∃ L1 M R, X 8 = .i (pl + M.length) ∧ x0 :: L = L1 ++ R ∧ StPerm L1 M ∧ Sorted M ∧ τ = σ.set b (some (.arr 45 7 cap ((P ++ M ++ R ++ S).map mD)))) (fun X _ => (pl + (x0 :: L).length) - (X 8).int.toNat) ?_ ?_
    · refine .same ⟨mix_self _ _, [x0], [x0], L, ?_, rfl, .refl _, List.pairwise_singleton _ _, ?_⟩
      · simp [*]
      · rw [set_same]
        rw [HO.out]
        simp
    · rintro X τ ⟨L1, M, R, h8, h1, h2, h3, rfl⟩ _ hLo
      have hlen := stperm_len h2
      have hll := congrArg List.length h1
      simp only [List.length_append] at hll
      rcases R with _ | ⟨x, R⟩
      · have hex : ¬ ((pl : Int) + M.length < e) := by have := HE.out; simp at hll; simp at this; omega
        rw [List.append_nil]
        obtain ⟨cs, hcs⟩ : ∃ cs, cs = (P ++ M ++ S).map mD := ⟨_, rfl⟩
        have HR := Lib.hid (show SortR b cap P (x0 :: L) S σ (.tup []) (σ.set b (some (.arr 45 7 cap cs))) from ⟨M, ⟨by rw [h1, List.append_nil]; exact h2, h3⟩, rfl, by rw [hcs]⟩)
        rw [← hcs]
        clear h1 h2 h3 hlen hll hcs
        refine' wlk0
        ((try simp [*]); (try simp (discharger := omega) only [wrap_i64, dec_t, dec_f]))
        exact .same HR.out
      · have hex : (pl : Int) + M.length < e := by have := HE.out; simp at hll; simp at this; omega
        have hb2 : (pl : Int) + M.length + 1 ≤ 9223372036854775807 := by have := HN.out; simp at hll; simp at this; omega
        have HB3 := Lib.hid (show pl + M.length < n by have := HN.out; simp at hll; simp at this; omega)
        have H1 := Lib.hid h1
        have H2 := Lib.hid h2
        have H3 := Lib.hid h3
        have HLL := Lib.hid hll
        have HLE := Lib.hid hlen
        clear h1 h2 h3 hlen hll
        obtain ⟨cs, hcs⟩ : ∃ cs, cs = (P ++ M ++ x :: R ++ S).map mD := ⟨_, rfl⟩
        rw [← hcs]
        have HC := Lib.hid hcs
        clear hcs
        refine' wlk0
        refine awp_loopM [9, 18, 19, 20, 21, 22, 23, 24, 25, 26, 27, 28, 29, 30, 31, 32, 33, 34, 35, 36, 37, 38, 39, 40, 41, 42, 43, 44, 45, 46, 47, 48, 49, 50, 51, 52] (fun X τ => ∃ M1 M2, X 9 = .i (pl + M1.length) ∧ M = M1 ++ M2 ∧ (∀ y ∈ M2, klt x y = true) ∧ τ = σ.set b (some (.arr 45 7 cap ((P ++ (M1 ++ x :: M2) ++ R ++ S).map mD)))) (fun X _ => (X 9).int.toNat) ?_ ?_
        · refine .same ⟨mix_self _ _, M, [], ?_, by simp, by simp, by rw [HC.out]; simp⟩
          simp [*]
        · rintro X τ ⟨M1, M2, h9, k1, k2, rfl⟩ _ hL
          have K1 := Lib.hid k1
          have K2 := Lib.hid k2
          clear k1 k2 HC cs
          rcases List.eq_nil_or_concat M1 with rfl | ⟨M0, y, rfl⟩
          · obtain ⟨cs, hcs⟩ : ∃ cs, cs = (P ++ ([] ++ x :: M2) ++ R ++ S).map mD := ⟨_, rfl⟩
            rw [← hcs]
            have HC := Lib.hid hcs
            clear hcs
            refine' wlk0
            (refine awp_draw (fun KS EG hK hP => ?_); refine draw_rule rfl [(0, true), (1, true), (2, true), (3, true), (4, true), (5, true), (6, true), (7, true), (8, false), (9, true), (10, true), (11, true), (12, true), (13, false), (14, false), (15, true), (16, true)] [] [] (by kernel_rfl) ?_; refine' dqs0)
            refine' wlk0
            refine hLo.out _ _ (.same ⟨mixT, ⟨L1 ++ [x], [] ++ x :: M2, R, ?_, by rw [H1.out]; simp, ins_perm (K1.out ▸ H2.out) K2.out, ins_sorted (K1.out ▸ H3.out) K2.out (by simp), by rw [HC.out]⟩, ?_⟩)
            · have hm := congrArg List.length K1.out
              simp at hm
              simp [*]
              omega
            · have hm := congrArg List.length K1.out
              have := HB3.out
              have := HLL.out
              have := HLE.out
              simp at *
              simp [*, D.int]
              omega
          · rw [List.concat_eq_append] at *
            obtain ⟨u, hu⟩ : ∃ u, u = pl + M0.length := ⟨_, rfl⟩
            have h9' : X 9 = .i ((u : Int) + 1) := by rw [h9, hu]; simp; try omega
            obtain ⟨cs, hcs⟩ : ∃ cs, cs = (P ++ ((M0 ++ [y]) ++ x :: M2) ++ R ++ S).map mD := ⟨_, rfl⟩
            have g1 : cs[u]? = some (mD y) := by
              rw [hcs, hu, HP.out]
              simp
            have g2 : cs[u + 1]? = some (mD x) := by
              rw [hcs, hu, HP.out]
              have := get_at ((P ++ M0 ++ [y]).map mD) (mD x) ((M2 ++ R ++ S).map mD)
              simpa [Nat.add_assoc] using this
            have hs : (cs.set (u + 1) (mD y)).set u (mD x) = (P ++ (M0 ++ x :: y :: M2) ++ R ++ S).map mD := by
              rw [hcs, hu, HP.out]
              have := set_at ((P ++ M0 ++ [y]).map mD) (mD x) (mD y) ((M2 ++ R ++ S).map mD)
              have h2 := set_at ((P ++ M0).map mD) (mD y) (mD x) ((y :: M2 ++ R ++ S).map mD)
              simp [Nat.add_assoc] at this h2 ⊢
              try rw [this, h2]
            have hun : u + 1 < n := by have := HB3.out; have := congrArg List.length K1.out; simp at this; omega
            rw [← hcs]
            have HC := Lib.hid hcs
            have HS := Lib.hid hs
            have HU := Lib.hid hu
            clear hcs hs hu h9
            have CM := Lib.hid (cmp1T x y)
            have CN := Lib.hid (cmp_neg x y)
            obtain ⟨c, hc⟩ : ∃ c, c = cmpB x.1 y.1 := ⟨_, rfl⟩
            rw [← hc] at CM CN
            clear hc
            have hn1 : (u : Int) + 1 < n := by omega
            have hn0 : (u : Int) < n := by omega
            have hgt : (pl : Int) < (u : Int) + 1 := by have := HU.out; omega
            have hnn : (0 : Int) ≤ (u : Int) + 1 := by omega
            have htn : ((u : Int) + 1).toNat = u + 1 := by omega
            have hw1 : IntKind.i64.wrap ((u : Int) + 1 - 1) = u := by rw [wrap_i64 _ (by omega) (by omega)]; try omega
            by_cases hlt : c < 0
            · have hk := CN.out.1 hlt
              refine' wlk0
              (refine awp_draw (fun KS EG hK hP => ?_); refine draw_rule rfl [(0, true), (1, true), (2, true), (3, true), (4, true), (5, true), (6, true), (7, true), (8, false), (9, true), (10, true), (11, true), (12, true), (13, false), (14, false), (15, true), (16, true)] [] [] (by kernel_rfl) ?_; refine' dqs1 CM.out)
              refine' wlk0
              (refine awp_draw (fun KS EG hK hP => ?_); refine draw_rule rfl [(0, true), (1, true), (2, true), (3, true), (4, true), (5, true), (6, true), (7, true), (8, true), (9, false), (10, true), (11, true), (12, true), (13, false), (14, true), (16, true)] [] [15, 17] (by kernel_rfl) ?_; refine' dqs0)
              refine' wlk0
              refine hL.out _ _ (.same ⟨mixT, ⟨M0, y :: M2, ?_, by rw [K1.out]; simp, ?_, ?_⟩, ?_⟩)
              · have := HU.out
                simp [*]
                try omega
              · intro z hz
                rcases List.mem_cons.1 hz with rfl | hz
                · exact hk
                · exact K2.out z hz
              · rw [← HS.out]
              · simp [*, D.int]; try omega
            · have hk : klt x y = false := by
                cases h : klt x y with
                | false => rfl
                | true => exact absurd (CN.out.2 h) hlt
              refine' wlk0
              (refine awp_draw (fun KS EG hK hP => ?_); refine draw_rule rfl [(0, true), (1, true), (2, true), (3, true), (4, true), (5, true), (6, true), (7, true), (8, false), (9, true), (10, true), (11, true), (12, true), (13, false), (14, false), (15, true), (16, true)] [] [] (by kernel_rfl) ?_; refine' dqs1 CM.out)
              refine' wlk0
              refine hLo.out _ _ (.same ⟨mixT, ⟨L1 ++ [x], (M0 ++ [y]) ++ x :: M2, R, ?_, by rw [H1.out]; simp, ins_perm (K1.out ▸ H2.out) K2.out, ins_sorted (K1.out ▸ H3.out) K2.out (fun M w e => by
                have := List.append_inj_right' e rfl
                injection this with this
                rw [← this]
                exact hk), by rw [HC.out]⟩, ?_⟩)
              · have hm := congrArg List.length K1.out
                simp at hm
                simp [*]
                omega
              · have hm := congrArg List.length K1.out
                have := HB3.out
                have := HLL.out
                have := HLE.out
                simp at *
                simp [*, D.int]
                omega
end Go.Proofs.YtmjendeigjdihaaDoor
/-
  A stable sort (chapter 1): two pieces change places.
-/
namespace Go.Proofs.YtmjendeigjdihaaDoor
open Go.RowKit
set_option maxRecDepth 100000
set_option linter.unusedVariables false
set_option linter.unusedSimpArgs false
attribute [local irreducible] awp aops aop aput aseq ablock TriX Tri Ret Fresh dq adraw dtail dals dfin Wk

set_option maxHeartbeats 8000000 in
theorem swapRT (b cap n : Nat) (a e k : Int) (f : D) (P A Q B S : List Mem) (hAB : A.length = B.length) (σ : St) (hown1 : σ.own b = some (.arr 45 7 cap ((P ++ A ++ Q ++ B ++ S).map mD))) (ha : a = P.length) (he : e = P.length + A.length + Q.length) (hk : k = A.length) (hn : n = (P ++ A ++ Q ++ B ++ S).length) (hmax : n ≤ 140737488355328) :
    Tri Tryd.prog 78 [.arr b 7 cap 0 n, .i a, .i e, .i k, f] σ fun d τ => d = .tup [] ∧ τ = σ.set b (some (.arr 45 7 cap ((P ++ B ++ Q ++ A ++ S).map mD))) := by
  have HO := Lib.hid hown1
  have HA := Lib.hid ha
  have HE := Lib.hid he
  have HK := Lib.hid hk
  simp only [List.length_append] at hn
  have HN := Lib.hid hn
  have HAB := Lib.hid hAB
  clear hown1 ha he hk hn hAB
  refine tri_fn Tryd.func78 rfl Tryd.ntmps78 Tryd.results78 (Nat.le_of_ble_eq_true rfl) ?_
  refine' wlk0
  refine awp_loopM [10, 11, 12, 13, 14, 15, 16, 17, 18, 19, 20, 21, 22, 23, 24, 25, 26, 27, 28, 29, 30, 31, 32, 33, 34, 35, 36, 37] (fun X τ => ∃ (i : Nat) (A1 A2 B1 B2 : List Mem), X 10 = .i i ∧ i = A1.length ∧ A1.length = B1.length ∧ A = A1 ++ A2 ∧ B = B1 ++ B2 ∧ τ = σ.set b (some (.arr 45 7 cap ((P ++ B1 ++ A2 ++ Q ++ A1 ++ B2 ++ S).map mD)))) (fun X _ => A.length - (X 10).int.toNat) ?_ ?_
  · refine .same ⟨mix_self _ _, 0, [], A, [], B, ?_, rfl, rfl, rfl, rfl, ?_⟩
    · simp [*]
    · rw [set_same]
      rw [HO.out]
      simp
  · rintro X τ ⟨i, A1, A2, B1, B2, h10, hi, h1, h2, h3, rfl⟩ _ hL
    rcases A2 with _ | ⟨x, A2⟩
    · have hB2 : B2 = [] := by
        have := HAB.out
        rw [h2, h3] at this
        simp at this
        exact List.eq_nil_of_length_eq_zero (by omega)
      have hex : ¬ ((i : Int) < k) := by rw [HK.out, h2, hi]; simp
      have HR := Lib.hid (show P ++ B1 ++ [] ++ Q ++ A1 ++ B2 ++ S = P ++ B ++ Q ++ A ++ S by rw [h2, h3, hB2]; simp)
      rw [HR.out]
      obtain ⟨cs, hcs⟩ : ∃ cs, cs = (P ++ B ++ Q ++ A ++ S).map mD := ⟨_, rfl⟩
      rw [← hcs]
      clear h1 h2 h3 hB2 hi hcs
      refine' wlk0
      ((try simp [*]); (try simp (discharger := omega) only [wrap_i64, dec_t, dec_f]))
      exact .same ⟨rfl, rfl⟩
    · obtain ⟨y, B3, rfl⟩ : ∃ y B3, B2 = y :: B3 := by
        have := HAB.out
        rw [h2, h3] at this
        simp at this
        rcases B2 with _ | ⟨y, B3⟩
        · simp at this; omega
        · exact ⟨y, B3, rfl⟩
      have hex : (i : Int) < k := by rw [HK.out, h2, hi]; simp; omega
      obtain ⟨u, hu⟩ : ∃ u, u = P.length + i := ⟨_, rfl⟩
      obtain ⟨v, hv⟩ : ∃ v, v = P.length + A.length + Q.length + i := ⟨_, rfl⟩
      obtain ⟨cs, hcs⟩ : ∃ cs, cs = (P ++ B1 ++ (x :: A2) ++ Q ++ A1 ++ (y :: B3) ++ S).map mD := ⟨_, rfl⟩
      have hAl : A.length = i + (A2.length + 1) := by rw [h2, hi]; simp
      have hBl : B.length = i + (B3.length + 1) := by rw [h3, hi, h1]; simp
      have hB1 : B1.length = i := by omega
      have hA1 : A1.length = i := by omega
      have e1 : cs = (P ++ B1).map mD ++ mD x :: (A2 ++ Q ++ A1 ++ (y :: B3) ++ S).map mD := by rw [hcs]; simp
      have g1 : cs[u]? = some (mD x) := by rw [e1]; exact get_at' _ _ _ (by simp; omega)
      have e2 : cs = (P ++ B1 ++ (x :: A2) ++ Q ++ A1).map mD ++ mD y :: (B3 ++ S).map mD := by rw [hcs]; simp
      have g2 : cs[v]? = some (mD y) := by rw [e2]; exact get_at' _ _ _ (by simp; omega)
      have e3 : cs.set u (mD y) = (P ++ B1 ++ (y :: A2) ++ Q ++ A1).map mD ++ mD y :: (B3 ++ S).map mD := by rw [e1, set_at' _ _ _ _ (by simp; omega)]; simp
      have hs : (cs.set u (mD y)).set v (mD x) = (P ++ (B1 ++ [y]) ++ A2 ++ Q ++ (A1 ++ [x]) ++ B3 ++ S).map mD := by
        rw [e3, set_at' _ _ _ _ (by simp; omega)]
        simp
      have hun : u < n := by have := HN.out; omega
      have hvn : v < n := by have := HN.out; have := HAB.out; omega
      have hwu : IntKind.i64.wrap (a + i) = u := by rw [wrap_i64 _ (by have := HA.out; omega) (by have := HA.out; omega), HA.out]; omega
      have hwv : IntKind.i64.wrap (e + i) = v := by rw [wrap_i64 _ (by have := HE.out; omega) (by have := HE.out; omega), HE.out]; omega
      have hwi : IntKind.i64.wrap ((i : Int) + 1) = (i : Int) + 1 := wrap_i64 _ (by omega) (by omega)
      have hne1 : ¬ u = v := by omega
      have hne2 : ¬ v = u := by omega
      rw [← hcs]
      have HS := Lib.hid hs
      have HC := Lib.hid hcs
      have HI := Lib.hid hi
      have H1 := Lib.hid h1
      have H2 := Lib.hid h2
      have H3 := Lib.hid h3
      have HAL := Lib.hid hAl
      clear e1 e2 e3 hs hcs hi h1 h2 h3 hu hv hAl hBl hB1 hA1
      refine' wlk0
      (refine awp_draw (fun KS EG hK hP => ?_); refine draw_rule rfl [(0, true), (1, true), (2, true), (3, true), (4, true), (5, true), (6, true), (7, true), (8, true), (9, true), (10, true), (11, true), (12, true), (13, false), (14, true), (15, true), (16, true), (17, true), (18, true), (19, false), (20, true), (22, true)] [] [21, 23] (by kernel_rfl) ?_; refine' dqs0)
      refine' wlk0
      rw [HS.out]
      refine hL.out _ _ (.same ⟨mixT, ⟨i + 1, A1 ++ [x], A2, B1 ++ [y], B3, ?_, ?_, ?_, ?_, ?_, rfl⟩, ?_⟩)
      · simp [*]
      · rw [HI.out]; simp
      · simp [H1.out]
      · rw [H2.out]; simp
      · rw [H3.out]; simp
      · have := HAL.out
        simp [*, D.int]; omega
end Go.Proofs.YtmjendeigjdihaaDoor
/-
  A stable sort (chapter 1): two pieces beside each other change places.
-/
namespace Go.Proofs.YtmjendeigjdihaaDoor
open Go.RowKit
set_option maxRecDepth 100000
set_option linter.unusedVariables false
set_option linter.unusedSimpArgs false
attribute [local irreducible] awp aops aop aput aseq ablock TriX Tri Ret Fresh dq adraw dtail dals dfin Wk

theorem split_at {α : Type} (l : List α) (n : Nat) (h : n ≤ l.length) : ∃ a b, l = a ++ b ∧ a.length = n := ⟨l.take n, l.drop n, (List.take_append_drop n l).symm, by rw [List.length_take]; omega⟩
set_option maxHeartbeats 8000000 in
theorem rotT (b cap n : Nat) (a m e : Int) (f : D) (P A B S : List Mem) (σ : St) (hown1 : σ.own b = some (.arr 45 7 cap ((P ++ A ++ B ++ S).map mD))) (ha : a = P.length) (hm : m = P.length + A.length) (he : e = P.length + A.length + B.length) (hn : n = (P ++ A ++ B ++ S).length) (hmax : n ≤ 140737488355328) (hA : A ≠ []) (hB : B ≠ []) :
    Tri Tryd.prog 76 [.arr b 7 cap 0 n, .i a, .i m, .i e, f] σ fun d τ => d = .tup [] ∧ τ = σ.set b (some (.arr 45 7 cap ((P ++ B ++ A ++ S).map mD))) := by
  have HO := Lib.hid hown1
  have HA := Lib.hid ha
  have HM := Lib.hid hm
  have HE := Lib.hid he
  simp only [List.length_append] at hn
  have HN := Lib.hid hn
  have hwi : IntKind.i64.wrap (m - a) = A.length := by rw [wrap_i64 _ (by omega) (by omega)]; omega
  have hwj : IntKind.i64.wrap (e - m) = B.length := by rw [wrap_i64 _ (by omega) (by omega)]; omega
  clear hown1 ha hm he hn
  obtain ⟨ce, hce⟩ : ∃ ce, ce = (P ++ B ++ A ++ S).map mD := ⟨_, rfl⟩
  rw [← hce]
  have HCE := Lib.hid hce
  clear hce
  refine tri_fn Tryd.func76 rfl Tryd.ntmps76 Tryd.results76 (Nat.le_of_ble_eq_true rfl) ?_
  refine' wlk0
  refine awp_loopM [10, 11, 18, 19, 20, 21, 22, 23, 24, 25, 26, 27, 28, 29, 30, 31, 32, 33, 34, 35, 36, 37, 38, 39, 40, 41, 42, 43, 44, 45, 46, 47, 48, 49] (fun X τ => ∃ (i j : Nat) (P' A' B' S' : List Mem), X 10 = .i i ∧ X 11 = .i j ∧ i = A'.length ∧ j = B'.length ∧ 0 < i ∧ 0 < j ∧ m = (P' ++ A').length ∧ n = (P' ++ A' ++ B' ++ S').length ∧ P ++ B ++ A ++ S = P' ++ B' ++ A' ++ S' ∧ τ = σ.set b (some (.arr 45 7 cap ((P' ++ A' ++ B' ++ S').map mD)))) (fun X _ => (X 10).int.toNat + (X 11).int.toNat) ?_ ?_
  · refine .same ⟨mix_self _ _, A.length, B.length, P, A, B, S, ?_, ?_, rfl, rfl, List.length_pos_iff.2 hA, List.length_pos_iff.2 hB, ?_, ?_, rfl, ?_⟩
    · simp [*]
    · simp [*]
    · rw [HM.out]; simp
    · rw [HN.out]; simp; omega
    · rw [set_same]
      rw [HO.out]
  · rintro X τ ⟨i, j, P', A', B', S', h10, h11, hi, hj, hi0, hj0, hm, hn, hr, rfl⟩ _ hL
    simp only [List.length_append] at hm hn
    have hw1 : IntKind.i64.wrap (m - i) = P'.length := by rw [wrap_i64 _ (by omega) (by omega)]; omega
    have hw2 : IntKind.i64.wrap (m + j) = P'.length + i + j := by rw [wrap_i64 _ (by omega) (by omega)]; omega
    by_cases hij : i = j
    · have SW := Lib.hid (fun f σ h => swapRT b cap n P'.length m i f P' A' [] B' S' (by omega) σ h rfl (by simp; omega) (by omega) (by simp; omega) hmax)
      obtain ⟨cs, hcs⟩ : ∃ cs, cs = (P' ++ A' ++ B' ++ S').map mD := ⟨_, rfl⟩
      simp only [List.append_nil] at SW
      rw [← hcs, ← hr, ← HCE.out] at SW
      rw [← hcs]
      clear hr hcs hi hj hm hn hwi hwj HM
      subst hij
      repeat (first | ((first | refine aops_cons (fun K9 hO => ?_) | (refine aops_guardT rfl ?_ (fun K9 hO => ?_); (focus (simp [*]; done)))); simp [*]; (try simp (discharger := omega) only [wrap_i64, dec_t, dec_f]); (first | ((try (first | refine .inl ⟨by omega, by omega, ?_⟩ | refine ⟨by omega, by omega, ?_⟩ | refine ⟨by omega, ?_⟩ | refine .inl ?_)); (first | (intro b; intros; (try have hneA := ne_own (b := b) hown1 (by assumption)); (try have hneB := ne_own (b := b) hown2 (by assumption)); (try have hneC := ne_own (b := b) hown3 (by assumption)); refine hO.out _ _ ?_) | refine hO.out _ _ ?_)) | ((first | refine Tri.call (SW.out _ _ (by simp [*])) ?_); (first | rintro _ _ ⟨rfl, h9⟩; replace h9 := h9.symm; subst h9 | rintro _ _ ⟨_, rfl, rfl⟩ | rintro _ _ ⟨_, _, rfl, rfl⟩ | rintro _ _ ⟨_, _, _, rfl, rfl⟩); refine hO.out _ _ ?_)); clear hO; (try clear K9); (first | refine aput_some (by decide) ?_ | refine aput_none ?_)) | refine aops_nil ?_ | refine aseq_normal ?_ | refine aseq_ret ?_ | refine aseq_exit ?_ | refine ablock_normal ?_ | refine ablock_ret ?_ | refine ablock_same ?_ | refine ablock_other (by decide) ?_ | ((repeat ((fail_if_success (refine hK.out _ _ ?_)); clear hK; (try clear hP EG); (try clear KS))); refine hK.out _ _ ?_; clear hK; (try clear hP EG); try clear KS) | refine awp_seq (fun KS hK => ?_) | refine awp_region (fun KS EG hK hP => ?_) | refine awp_block ?_ | refine awp_skip ?_ | refine awp_ret ?_ | refine awp_exit ?_ | (refine awp_condT ?_ ?_; (focus (simp [*]; done))) | (refine awp_condF ?_ ?_; (focus (simp [*]; done))) | ((first | (refine aops_guardF rfl ?_ ?_; (focus (simp [*]; done))) | (refine aops_guardU rfl ?_ ?_; (focus (simp [*]; done)))); (first | refine aput_some (by decide) ?_ | refine aput_none ?_)))
      ((try simp [*]); (try simp (discharger := omega) only [wrap_i64, dec_t, dec_f]))
      exact .same ⟨rfl, rfl⟩
    · have hij' : ¬ (i : Int) = j := by omega
      by_cases hgt : j < i
      · obtain ⟨A1, A2, rfl, hA1⟩ := split_at A' j (by omega)
        have SW := Lib.hid (fun f σ h => swapRT b cap n P'.length m j f P' A1 A2 B' S' (by omega) σ h rfl (by simp at *; omega) (by omega) (by simp at *; omega) hmax)
        obtain ⟨cs, hcs⟩ : ∃ cs, cs = (P' ++ (A1 ++ A2) ++ B' ++ S').map mD := ⟨_, rfl⟩
        obtain ⟨cs', hcs'⟩ : ∃ cs', cs' = (P' ++ B' ++ A2 ++ A1 ++ S').map mD := ⟨_, rfl⟩
        rw [show P' ++ A1 ++ A2 ++ B' ++ S' = P' ++ (A1 ++ A2) ++ B' ++ S' by simp, ← hcs, ← hcs'] at SW
        rw [← hcs]
        have hgt' : (j : Int) < i := by omega
        have hw3 : IntKind.i64.wrap ((i : Int) - j) = ((i - j : Nat) : Int) := by rw [wrap_i64 _ (by omega) (by omega)]; omega
        have HR := Lib.hid hr
        have HALL := Lib.hid (And.intro hi (And.intro hj (And.intro hm hn)))
        have HC := Lib.hid hcs'
        clear hr hcs hcs' hi hj hm hn hwi hwj hw2
        repeat (first | ((first | refine aops_cons (fun K9 hO => ?_) | (refine aops_guardT rfl ?_ (fun K9 hO => ?_); (focus (simp [*]; done)))); simp [*]; (try simp (discharger := omega) only [wrap_i64, dec_t, dec_f]); (first | ((try (first | refine .inl ⟨by omega, by omega, ?_⟩ | refine ⟨by omega, by omega, ?_⟩ | refine ⟨by omega, ?_⟩ | refine .inl ?_)); (first | (intro b; intros; (try have hneA := ne_own (b := b) hown1 (by assumption)); (try have hneB := ne_own (b := b) hown2 (by assumption)); (try have hneC := ne_own (b := b) hown3 (by assumption)); refine hO.out _ _ ?_) | refine hO.out _ _ ?_)) | ((first | refine Tri.call (SW.out _ _ (by simp [*])) ?_); (first | rintro _ _ ⟨rfl, h9⟩; replace h9 := h9.symm; subst h9 | rintro _ _ ⟨_, rfl, rfl⟩ | rintro _ _ ⟨_, _, rfl, rfl⟩ | rintro _ _ ⟨_, _, _, rfl, rfl⟩); refine hO.out _ _ ?_)); clear hO; (try clear K9); (first | refine aput_some (by decide) ?_ | refine aput_none ?_)) | refine aops_nil ?_ | refine aseq_normal ?_ | refine aseq_ret ?_ | refine aseq_exit ?_ | refine ablock_normal ?_ | refine ablock_ret ?_ | refine ablock_same ?_ | refine ablock_other (by decide) ?_ | ((repeat ((fail_if_success (refine hK.out _ _ ?_)); clear hK; (try clear hP EG); (try clear KS))); refine hK.out _ _ ?_; clear hK; (try clear hP EG); try clear KS) | refine awp_seq (fun KS hK => ?_) | refine awp_region (fun KS EG hK hP => ?_) | refine awp_block ?_ | refine awp_skip ?_ | refine awp_ret ?_ | refine awp_exit ?_ | (refine awp_condT ?_ ?_; (focus (simp [*]; done))) | (refine awp_condF ?_ ?_; (focus (simp [*]; done))) | ((first | (refine aops_guardF rfl ?_ ?_; (focus (simp [*]; done))) | (refine aops_guardU rfl ?_ ?_; (focus (simp [*]; done)))); (first | refine aput_some (by decide) ?_ | refine aput_none ?_)))
        refine hL.out _ _ (.same ⟨mixT, ⟨i - j, j, P' ++ B', A2, A1, S', ?_, ?_, by obtain ⟨_, _, _, _⟩ := HALL.out; (try simp only [List.length_append] at *); omega, by obtain ⟨_, _, _, _⟩ := HALL.out; (try simp only [List.length_append] at *); omega, by obtain ⟨_, _, _, _⟩ := HALL.out; (try simp only [List.length_append] at *); omega, by obtain ⟨_, _, _, _⟩ := HALL.out; (try simp only [List.length_append] at *); omega, by obtain ⟨_, _, _, _⟩ := HALL.out; (try simp only [List.length_append] at *); omega, by obtain ⟨_, _, _, _⟩ := HALL.out; (try simp only [List.length_append] at *); omega, by rw [HR.out]; simp, by rw [HC.out]⟩, ?_⟩)
        · simp [*]
        · simp [*]
        · simp [*, D.int]; omega
      · obtain ⟨B1, B2, rfl, hB1⟩ := split_at B' (j - i) (by omega)
        simp only [List.length_append] at hj hn
        have SW := Lib.hid (fun f σ h => swapRT b cap n P'.length (P'.length + j) i f P' A' B1 B2 S' (by omega) σ h rfl (by omega) (by omega) (by simp; omega) hmax)
        obtain ⟨cs, hcs⟩ : ∃ cs, cs = (P' ++ A' ++ (B1 ++ B2) ++ S').map mD := ⟨_, rfl⟩
        obtain ⟨cs', hcs'⟩ : ∃ cs', cs' = (P' ++ B2 ++ B1 ++ A' ++ S').map mD := ⟨_, rfl⟩
        rw [show P' ++ A' ++ B1 ++ B2 ++ S' = P' ++ A' ++ (B1 ++ B2) ++ S' by simp, ← hcs, ← hcs'] at SW
        rw [← hcs]
        have hgt' : ¬ (j : Int) < i := by omega
        have hw3 : IntKind.i64.wrap ((j : Int) - i) = ((j - i : Nat) : Int) := by rw [wrap_i64 _ (by omega) (by omega)]; omega
        have hw4 : IntKind.i64.wrap ((P'.length : Int) + i + j - i) = (P'.length : Int) + j := by rw [wrap_i64 _ (by omega) (by omega)]; omega
        have HR := Lib.hid hr
        have HALL := Lib.hid (And.intro hi (And.intro hj (And.intro hm hn)))
        have HC := Lib.hid hcs'
        clear hr hcs hcs' hi hj hm hn hwi hwj
        repeat (first | ((first | refine aops_cons (fun K9 hO => ?_) | (refine aops_guardT rfl ?_ (fun K9 hO => ?_); (focus (simp [*]; done)))); simp [*]; (try simp (discharger := omega) only [wrap_i64, dec_t, dec_f]); (first | ((try (first | refine .inl ⟨by omega, by omega, ?_⟩ | refine ⟨by omega, by omega, ?_⟩ | refine ⟨by omega, ?_⟩ | refine .inl ?_)); (first | (intro b; intros; (try have hneA := ne_own (b := b) hown1 (by assumption)); (try have hneB := ne_own (b := b) hown2 (by assumption)); (try have hneC := ne_own (b := b) hown3 (by assumption)); refine hO.out _ _ ?_) | refine hO.out _ _ ?_)) | ((first | refine Tri.call (SW.out _ _ (by simp [*])) ?_); (first | rintro _ _ ⟨rfl, h9⟩; replace h9 := h9.symm; subst h9 | rintro _ _ ⟨_, rfl, rfl⟩ | rintro _ _ ⟨_, _, rfl, rfl⟩ | rintro _ _ ⟨_, _, _, rfl, rfl⟩); refine hO.out _ _ ?_)); clear hO; (try clear K9); (first | refine aput_some (by decide) ?_ | refine aput_none ?_)) | refine aops_nil ?_ | refine aseq_normal ?_ | refine aseq_ret ?_ | refine aseq_exit ?_ | refine ablock_normal ?_ | refine ablock_ret ?_ | refine ablock_same ?_ | refine ablock_other (by decide) ?_ | ((repeat ((fail_if_success (refine hK.out _ _ ?_)); clear hK; (try clear hP EG); (try clear KS))); refine hK.out _ _ ?_; clear hK; (try clear hP EG); try clear KS) | refine awp_seq (fun KS hK => ?_) | refine awp_region (fun KS EG hK hP => ?_) | refine awp_block ?_ | refine awp_skip ?_ | refine awp_ret ?_ | refine awp_exit ?_ | (refine awp_condT ?_ ?_; (focus (simp [*]; done))) | (refine awp_condF ?_ ?_; (focus (simp [*]; done))) | ((first | (refine aops_guardF rfl ?_ ?_; (focus (simp [*]; done))) | (refine aops_guardU rfl ?_ ?_; (focus (simp [*]; done)))); (first | refine aput_some (by decide) ?_ | refine aput_none ?_)))
        refine hL.out _ _ (.same ⟨mixT, ⟨i, j - i, P', B2, B1, A' ++ S', ?_, ?_, by obtain ⟨_, _, _, _⟩ := HALL.out; (try simp only [List.length_append] at *); omega, by obtain ⟨_, _, _, _⟩ := HALL.out; (try simp only [List.length_append] at *); omega, by obtain ⟨_, _, _, _⟩ := HALL.out; (try simp only [List.length_append] at *); omega, by obtain ⟨_, _, _, _⟩ := HALL.out; (try simp only [List.length_append] at *); omega, by obtain ⟨_, _, _, _⟩ := HALL.out; (try simp only [List.length_append] at *); omega, by obtain ⟨_, _, _, _⟩ := HALL.out; (try simp only [List.length_append] at *); omega, by rw [HR.out]; simp, by rw [HC.out]; simp⟩, ?_⟩)
        · simp [*]
        · simp [*]
        · simp [*, D.int]; omega
end Go.Proofs.YtmjendeigjdihaaDoor
