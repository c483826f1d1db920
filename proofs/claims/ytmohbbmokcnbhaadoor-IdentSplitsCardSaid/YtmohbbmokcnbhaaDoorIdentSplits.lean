/-
  IdentSplits.
-/
import Derived.Test.YtmohbbmokcnbhaaDoorRef04
import Derived.Test.YtmohbbmokcnbhaaDoorIdentLaws
import Derived.Test.YtmohbbmokcnbhaaDoorTell
namespace Go.Proofs.YtmohbbmokcnbhaaDoor
open Go.RowKit
set_option maxRecDepth 100000
set_option linter.unusedVariables false
set_option linter.unusedSimpArgs false

set_option maxHeartbeats 1000000 in
theorem err_any (c : Int) (w : World) : Calls Tryd.prog 10 #[.int .i64 c] w fun e w' => e = .returned (.agg #[.int .i64 c, .int .i64 (-1), .string ⟨#[]⟩]) ∧ Below w.heap.size w w' := by
  go_enter Tryd.func10, Tryd.ntmps10
  go_wp2
  exact bodyPost_ret (results_cell_one rfl _ _ _ ⟨w.heap.size, 0, none⟩ rfl _ (EAt.load (heap_alloc_new _ _))) rfl ⟨rfl, (Below.refl _ w).alloc (Nat.le_refl _) _⟩
theorem eql_E7 (w : World) : (binOp .eql 32 (.agg #[.int .i64 7, .int .i64 (-1), .string ⟨#[]⟩]) (.agg #[.int .i64 7, .int .i64 (-1), .string ⟨#[]⟩])).run Tryd.prog w = .ok (.bool true) w := by kernel_rfl

theorem index_get (l : List UInt8) (c : UInt8) : ∀ (k : Nat), Lib.indexByte l c = (k : Int) → l[k]? = some c := by
  induction l with
  | nil => intro k h; simp [Lib.indexByte] at h
  | cons b l ih =>
    intro k h
    unfold Lib.indexByte at h
    by_cases hb : (b == c) = true
    · rw [if_pos hb] at h
      have : k = 0 := by omega
      subst this
      simpa using hb
    · rw [if_neg hb] at h
      split at h
      · omega
      · rename_i hm
        have hge := Lib.indexByte_ge l c
        have hm' : Lib.indexByte l c ≠ -1 := by simpa using hm
        cases k with
        | zero =>
          have h0 : Lib.indexByte l c + 1 = 0 := h
          omega
        | succ k =>
          rw [List.getElem?_cons_succ]
          exact ih k (by omega)
/-- A name is its first byte, its part, a colon, its server. -/
theorem split_whole {s : ByteArray} (h : okB s = true) : (((s.extract 0 1 ++ partB s) ++ ⟨#[58]⟩) ++ hostB s) = s := by
  unfold okB at h
  simp only [Bool.and_eq_true, decide_eq_true_eq] at h
  obtain ⟨hk, ⟨ht, _⟩, _⟩ := h
  have hpos : 0 < s.size := by
    have := kindB_empty s
    omega
  have hlen : s.data.toList.length = s.size := by simp
  refine WideShapes.bytes_inj ?_
  have ha : (s.extract 0 1).data.toList = s.data.toList.take 1 := by rw [Lib.extract_data]; simp
  have hx : (s.extract 1 s.size).data.toList = s.data.toList.drop 1 := by
    rw [Lib.extract_data, List.take_of_length_le (by simp)]
  unfold twoB cutT at ht
  have hi : 0 ≤ Lib.indexByte (s.extract 1 s.size).data.toList 58 := by simpa using ht
  obtain ⟨k, hk'⟩ := Int.eq_ofNat_of_zero_le hi
  have h58 := index_get (s.extract 1 s.size).data.toList 58 k hk'
  unfold partB hostB cutA cutZ
  rw [if_pos hi, if_pos hi, hk']
  have hs2 : (s.extract 1 s.size).size = s.size - 1 := by simp
  simp only [ByteArray.data_append, Array.toList_append, Lib.extract_data, Int.toNat_natCast, hs2]
  rw [Lib.extract_data, List.take_of_length_le (by simp)] at h58
  rw [List.take_of_length_le (l := s.data.toList.drop 1) (by simp)]
  have hdr : List.drop k (s.data.toList.drop 1) = 58 :: List.drop (k + 1) (s.data.toList.drop 1) := by
    have hkl := (List.getElem?_eq_some_iff.1 h58).1
    rw [List.drop_eq_getElem_cons hkl]
    congr 1
    exact (List.getElem?_eq_some_iff.1 h58).2
  rw [List.take_of_length_le (l := List.drop (k + 1) (s.data.toList.drop 1)) (by simp; omega)]
  conv => rhs; rw [← List.take_append_drop 1 s.data.toList, ← List.take_append_drop k (s.data.toList.drop 1), hdr]
  simp [List.append_assoc]
theorem host_server {s : ByteArray} (h : okB s = true) : isB 5 (hostB s) = true := by
  unfold okB at h
  simp only [Bool.and_eq_true] at h
  unfold isB
  rw [if_neg (by decide), if_pos rfl]
  exact h.2.2

set_option maxHeartbeats 4000000 in
theorem splits4_any (s : ByteArray) (hs : s.size ≤ maxLen) (w : World) (hG : ErrT w) :
    Calls Tryd.prog 3 #[.string s] w fun e w' => e = .returned (.bool true) ∧ Below w.heap.size w w' := by
  have h0 := awake4_any w
  have HG := Lib.hid hG
  clear hG
  by_cases h300 : s.size ≤ 300
  case neg =>
    have hs' : s.size ≤ 9223372036854775807 := by unfold maxLen at hs; omega
    clear hs
    go_enter Tryd.func3, Tryd.ntmps3
    go_wp2_with fail
    refine h0.mono ?_
    rintro e w1 ⟨rfl, hb1⟩
    have h2 := awake4_any w1
    clear h0
    go_wp2_with fail
    refine h2.mono ?_
    rintro e w2 ⟨rfl, hb2⟩
    clear h2
    go_wp2_with fail
    go_ret
    exact ⟨rfl, hb1.trans (hb2.mono hb1.size)⟩
  have h1 := fun W : World => split_any s W hs
  have h2 := fun W : World => refSplit_any s W (by omega)
  have h3 := fun W : World => of_any s W hs
  unfold splitV at h1
  unfold refSplitV at h2
  unfold ofB at h3
  clear hs
  cases hok : okB s with
  | false =>
    rw [hok] at h1 h2 h3
    have h5 := fun (W : World) (hg : ErrT W) => tell_code 7 W hg
    have h6 := fun W : World => err_any 7 W
    have heq := eql_E7
    have H5 := Lib.hid h5
    clear hok h5
    go_enter Tryd.func3, Tryd.ntmps3
    go_wp2_with fail
    refine h0.mono ?_
    rintro e w1 ⟨rfl, hb1⟩
    clear h0
    go_wp2_with fail
    refine (h1 _).mono ?_
    rintro e w2 ⟨rfl, hb2⟩
    clear h1
    go_wp2_with fail
    refine (h2 _).mono ?_
    rintro e w3 ⟨rfl, hb3⟩
    clear h2
    go_wp2_with fail
    refine (h3 _).mono ?_
    rintro e w4 ⟨rfl, hb4⟩
    clear h3
    have hB4 : Below w.heap.size w w4 := by
      have b2 := hb1.trans (hb2.mono hb1.size)
      have b3 := b2.trans (hb3.mono b2.size)
      exact b3.trans (hb4.mono b3.size)
    have h7 := H5.out w4 (HG.out.below hB4)
    go_wp2_with fail
    refine h7.mono ?_
    rintro e w5 ⟨rfl, hb5⟩
    have hB5 := hB4.trans (hb5.mono hB4.size)
    clear h7
    go_wp2_with fail
    refine (h6 _).mono ?_
    rintro e w6 ⟨rfl, hb6⟩
    have hB6 := hB5.trans (hb6.mono hB5.size)
    clear h6
    go_wp2_with fail
    go_ret
    exact ⟨rfl, hB6⟩
  | true =>
    rw [hok] at h1 h2 h3
    have hkd : kindB s ≠ 0 := by
      unfold okB at hok
      simp only [Bool.and_eq_true, decide_eq_true_eq] at hok
      exact hok.1
    have hwh := split_whole hok
    have hsv := fun W : World => is_any 5 (hostB s) W (by
      unfold maxLen
      have : (hostB s).size ≤ (s.extract 1 s.size).size := size_cutZ _ _
      simp only [ByteArray.size_extract] at this
      omega)
    rw [host_server hok] at hsv
    have HWH := Lib.hid hwh
    have hz1 : (partB s).size ≤ 300 := by
      have : (partB s).size ≤ (s.extract 1 s.size).size := size_cutA _ _
      simp only [ByteArray.size_extract] at this
      omega
    have hz2 : (hostB s).size ≤ 300 := by
      have : (hostB s).size ≤ (s.extract 1 s.size).size := size_cutZ _ _
      simp only [ByteArray.size_extract] at this
      omega
    have hz0 : 1 ≤ s.size := by
      have := kindB_empty s
      omega
    have hkd2 : (kindB s == 0) = false := by rw [beq_eq_false_iff_ne]; exact hkd
    clear hok hwh hkd
    generalize kindB s = kd at h1 h2 hkd2
    generalize partB s = x1 at h1 h2 HWH hz1
    generalize hostB s = x2 at h1 h2 h3 hsv HWH hz2
    go_enter Tryd.func3, Tryd.ntmps3
    go_wp2_with fail
    refine h0.mono ?_
    rintro e w1 ⟨rfl, hb1⟩
    clear h0
    go_wp2_with fail
    refine (h1 _).mono ?_
    rintro e w2 ⟨rfl, hb2⟩
    clear h1
    go_wp2_with fail
    refine (h2 _).mono ?_
    rintro e w3 ⟨rfl, hb3⟩
    clear h2
    go_wp2_with fail
    refine (h3 _).mono ?_
    rintro e w4 ⟨rfl, hb4⟩
    clear h3
    have hB4 : Below w.heap.size w w4 := by
      have b2 := hb1.trans (hb2.mono hb1.size)
      have b3 := b2.trans (hb3.mono b2.size)
      exact b3.trans (hb4.mono b3.size)
    go_wp2_with fail
    · refine (hsv _).mono ?_
      rintro e w5 ⟨rfl, hb5⟩
      clear hsv
      go_wp2_with fail
      go_ret
      exact ⟨rfl, hB4.trans (hb5.mono hB4.size)⟩
    · rename_i hh
      exact absurd (congrArg ByteArray.toList HWH.out.symm) hh

end Go.Proofs.YtmohbbmokcnbhaaDoor
