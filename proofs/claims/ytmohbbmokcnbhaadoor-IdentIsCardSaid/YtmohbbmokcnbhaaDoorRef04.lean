/-
  The document's answer for names: in, all, colon, IsServer, Split.
-/
import Derived.Test.YtmohbbmokcnbhaaDoorRef04Sets
import Derived.Deep.Cut
import Derived.BigQuiet
namespace Go.Proofs.YtmohbbmokcnbhaaDoor
open Go.RowKit
set_option maxRecDepth 100000
set_option linter.unusedVariables false
set_option linter.unusedSimpArgs false

theorem any_snoc (s : ByteArray) (k : Nat) (h : k < s.size) (p : UInt8 → Bool) (ha : (s.data.toList.take k).any p = false) : (s.data.toList.take (k + 1)).any p = p s[k] := by
  rw [List.take_succ_eq_append_getElem (by simpa using h), List.any_append, ha]
  simp
  rfl
theorem any_of (s : ByteArray) (k : Nat) (h : k < s.size) (p : UInt8 → Bool) (hp : p s[k] = true) : s.data.toList.any p = true := by
  rw [List.any_eq_true]
  exact ⟨s[k], Array.mem_toList_iff.2 (Array.getElem_mem (xs := s.data) h), hp⟩
theorem toNat_beq (a b : UInt8) : (((a.toNat : Nat) : Int) == ((b.toNat : Nat) : Int)) = (a == b) := by
  by_cases h : a = b
  · subst h; simp
  · have h1 : a.toNat ≠ b.toNat := fun e => h (UInt8.toNat_inj.1 e)
    have : (a == b) = false := by simpa using h
    rw [this, beq_eq_false_iff_ne]
    omega

theorem any_all (l : List UInt8) : l.any (fun x => x == 58) = !(l.all (fun x => x != 58)) := by
  induction l with
  | nil => rfl
  | cons a l ih => rw [List.any_cons, List.all_cons, ih]; cases h : (a == 58) <;> simp [bne, h]

set_option maxHeartbeats 400000 in
theorem in_any (l : ByteArray) (c : UInt8) (w : World) (hl : l.size ≤ 1000) :
    Calls Tryd.prog 39 #[.string l, .int .u8 c.toNat] w fun e w' => e = .returned (.bool (inB l.data.toList c)) ∧ w = w' := by
  go_enter Tryd.func39, Tryd.ntmps39
  go_wp2
  go_loop [8] (fun i => ∃ k : Nat, k ≤ l.size ∧ i = .int .i64 k ∧ Hid ((l.data.toList.take k).any (fun x => x == c) = false)) (fun i => l.size - (intOf i).toNat)
  case atStart => exact ⟨0, Nat.zero_le _, rfl, by simp [Hid]⟩
  case round =>
    obtain ⟨k, hk, rfl, hall⟩ := hrel
    by_cases hlt : k < l.size
    · have hsn := any_snoc l k hlt (fun x => x == c) hall.out
      have hno := any_of l k hlt (fun x => x == c)
      have htn := toNat_beq l[k] c
      cases hp : (l[k] == c)
      · simp only [hp] at hsn htn
        have hsn2 := Lib.hid hsn
        clear hsn hp hno
        go_wp2_with fail
        go_round
        case rel => exact ⟨k + 1, by omega, by go_num, hsn2⟩
        case measure => simp [intOf]; omega
      · have hno2 := Lib.hid (hno hp)
        rw [hp] at htn
        clear hsn hp hno
        go_wp2_with fail
        go_ret
        exact ⟨ret_bool (by unfold inB; rw [hno2.out]), rfl⟩
    · have hk2 : k = l.size := by omega
      subst hk2
      have ha : l.data.toList.any (fun x => x == c) = false := by
        have := hall.out
        rwa [List.take_of_length_le (by simp)] at this
      have Ha := Lib.hid ha
      clear ha hall
      go_wp2
      go_ret
      exact ⟨ret_bool (by unfold inB; rw [Ha.out]), rfl⟩

set_option maxHeartbeats 400000 in
theorem all_ref (s : ByteArray) (least most : Int) (cs : ByteArray) (w : World) (hs : s.size ≤ 1000) (hc : cs.size ≤ 1000) :
    Calls Tryd.prog 24 #[.string s, .int .i64 least, .int .i64 most, .string cs] w fun e w' => e = .returned (.bool (allR s.data.toList least most cs.data.toList)) ∧ w = w' := by
  have hlen : s.data.toList.length = s.size := by simp
  unfold allR
  rw [hlen]
  clear hlen
  by_cases hl : least ≤ (s.size : Int)
  case neg =>
    rw [decide_eq_false hl]
    simp only [Bool.false_and]
    go_enter Tryd.func24, Tryd.ntmps24
    go_wp2
    go_ret
    exact ⟨rfl, rfl⟩
  by_cases hm : (s.size : Int) ≤ most
  case neg =>
    rw [decide_eq_false hm]
    simp only [Bool.false_and, Bool.and_false]
    go_enter Tryd.func24, Tryd.ntmps24
    go_wp2
    go_ret
    exact ⟨rfl, rfl⟩
  rw [decide_eq_true hl, decide_eq_true hm]
  have hin := fun (k : Nat) (h : k < s.size) (W : World) => in_any cs s[k] W hc
  clear hc
  go_enter Tryd.func24, Tryd.ntmps24
  go_wp2
  clear hl hm
  go_loop [22] (fun i => ∃ k : Nat, k ≤ s.size ∧ i = .int .i64 k ∧ Hid ((s.data.toList.take k).all (inB cs.data.toList) = true)) (fun i => s.size - (intOf i).toNat)
  case atStart => exact ⟨0, Nat.zero_le _, rfl, by simp [Hid]⟩
  case round =>
    obtain ⟨k, hk, rfl, hall⟩ := hrel
    by_cases hlt : k < s.size
    · have hd := hin k hlt
      have hsn := all_snoc s k hlt (inB cs.data.toList) hall.out
      have hno := all_false_of s k hlt (inB cs.data.toList)
      cases hp : inB cs.data.toList s[k]
      · have hno2 := Lib.hid (hno hp)
        rw [hp] at hd
        clear hsn hp hno hin
        go_wp2_with fail
        refine (hd _).mono ?_
        rintro e w' ⟨rfl, rfl⟩
        clear hd
        go_wp2_with fail
        go_ret
        exact ⟨ret_bool (by rw [hno2.out]; rfl), rfl⟩
      · rw [hp] at hd hsn
        have hsn2 := Lib.hid hsn
        clear hsn hp hno hin
        go_wp2_with fail
        refine (hd _).mono ?_
        rintro e w' ⟨rfl, rfl⟩
        clear hd
        go_wp2_with fail
        go_round
        case rel => exact ⟨k + 1, by omega, by go_num, hsn2⟩
        case measure => simp [intOf]; omega
    · have hk2 : k = s.size := by omega
      subst hk2
      have ha : s.data.toList.all (inB cs.data.toList) = true := by
        have := hall.out
        rwa [List.take_of_length_le (by simp)] at this
      have Ha := Lib.hid ha
      clear ha hall hin
      go_wp2
      go_ret
      exact ⟨ret_bool (by simpa using Ha.out.symm), rfl⟩

theorem index_atR (l r : List UInt8) (c : UInt8) (h : l.all (fun x => x != c) = true) : Lib.indexByte (l ++ c :: r) c = l.length := by
  induction l with
  | nil => simp [Lib.indexByte]
  | cons b l ih =>
    rw [List.all_cons, Bool.and_eq_true] at h
    have hb : (b == c) = false := by simpa using h.1
    rw [List.cons_append]
    unfold Lib.indexByte
    rw [ih h.2, hb]
    have : ((l.length : Int) == -1) = false := by rw [beq_eq_false_iff_ne]; omega
    simp [this]
theorem index_noneR (l : List UInt8) (c : UInt8) (h : l.all (fun x => x != c) = true) : Lib.indexByte l c = -1 := by
  induction l with
  | nil => rfl
  | cons b l ih =>
    rw [List.all_cons, Bool.and_eq_true] at h
    have hb : (b == c) = false := by simpa using h.1
    unfold Lib.indexByte
    rw [ih h.2, hb]
    rfl
theorem cut_found (s : ByteArray) (k : Nat) (h : k < s.size) (hk : s[k] = 58) (ha : (s.data.toList.take k).all (fun x => x != 58) = true) :
    cutA 58 s = s.extract 0 k ∧ cutZ 58 s = s.extract (k + 1) s.size ∧ cutT 58 s = true := by
  have hl : k < s.data.toList.length := by simpa using h
  have e : s.data.toList = s.data.toList.take k ++ 58 :: s.data.toList.drop (k + 1) := by
    have h1 : s.data.toList[k] = 58 := hk
    conv => lhs; rw [← List.take_append_drop k s.data.toList]
    rw [List.drop_eq_getElem_cons hl, h1]
  have hi : Lib.indexByte s.data.toList 58 = k := by
    rw [e, index_atR _ _ _ ha, List.length_take]
    omega
  unfold cutA cutZ cutT
  rw [hi, if_pos (by omega), if_pos (by omega)]
  exact ⟨by simp, by simp, by simp⟩
theorem cut_lost (s : ByteArray) (ha : s.data.toList.all (fun x => x != 58) = true) : cutA 58 s = s ∧ cutZ 58 s = ⟨#[]⟩ ∧ cutT 58 s = false := by
  have hi := index_noneR _ _ ha
  unfold cutA cutZ cutT
  rw [hi]
  exact ⟨rfl, rfl, rfl⟩

set_option maxHeartbeats 1000000 in
theorem colon_any (s : ByteArray) (w : World) (hs : s.size ≤ 1000) :
    Calls Tryd.prog 23 #[.string s] w fun e w' => e = .returned (.tuple #[.string (cutA 58 s), .string (cutZ 58 s), .bool (cutT 58 s)]) ∧ Below w.heap.size w w' := by
  go_enter Tryd.func23, Tryd.ntmps23
  go_wp2
  go_loop [8] (fun i => ∃ k : Nat, k ≤ s.size ∧ i = .int .i64 k ∧ Hid ((s.data.toList.take k).all (fun x => x != 58) = true)) (fun i => s.size - (intOf i).toNat)
  case atStart => exact ⟨0, Nat.zero_le _, rfl, by simp [Hid]⟩
  case round =>
    obtain ⟨k, hk, rfl, hall⟩ := hrel
    by_cases hlt : k < s.size
    · have hsn := all_snoc s k hlt (fun x => x != 58) hall.out
      have htn := toNat_beq s[k] 58
      by_cases hp : s[k] = 58
      · have hcf := cut_found s k hlt hp hall.out
        have HCF := Lib.hid hcf
        have h58 : ((s[k].toNat : Nat) : Int) = 58 := by rw [hp]; rfl
        clear hsn htn hcf hall hp
        have n1 : (0 : Int) ≤ (k : Int) := by omega
        have n2 : (k : Int) ≤ (s.size : Int) := by omega
        have n3 : (k : Int) + 1 ≤ (s.size : Int) := by omega
        go_upto_region 5 with fail
        go_quiet (fail)
        go_wp2_with fail
        exact bodyPost_ret (v := .tuple #[.string (s.extract 0 k), .string (s.extract (k + 1) s.size), .bool true]) (by simp [results, Tryd.results23, go_sem]) rfl ⟨by rw [HCF.out.1, HCF.out.2.1, HCF.out.2.2], below_drewN1 (Below.refl _ w) nq⟩
      · have h58 : ¬ ((s[k].toNat : Nat) : Int) = 58 := fun e => hp (UInt8.toNat_inj.1 (by have : s[k].toNat = 58 := by omega
                                                                                           rw [this]; rfl))
        have hsn2 : (s.data.toList.take (k + 1)).all (fun x => x != 58) = true := by rw [hsn]; simpa using hp
        have HSN := Lib.hid hsn2
        clear hsn htn hsn2 hp
        go_wp2_with fail
        go_round
        case rel => exact ⟨k + 1, by omega, by go_num, HSN⟩
        case measure => simp [intOf]; omega
    · have hk2 : k = s.size := by omega
      subst hk2
      have ha : s.data.toList.all (fun x => x != 58) = true := by
        have := hall.out
        rwa [List.take_of_length_le (by simp)] at this
      have HCL := Lib.hid (cut_lost s ha)
      clear ha hall
      go_wp2
      exact bodyPost_ret (v := .tuple #[.string s, .string ⟨#[]⟩, .bool false]) (by simp [results, Tryd.results23, go_sem]) rfl ⟨by rw [HCL.out.1, HCL.out.2.1, HCL.out.2.2], Below.refl _ _⟩

set_option maxHeartbeats 1000000 in
theorem isServer_any (s : ByteArray) (w : World) (hs : s.size ≤ 1000) :
    Calls Tryd.prog 25 #[.string s] w fun e w' => e = .returned (.bool (serverB s)) ∧ Below w.heap.size w w' := by
  have hc := fun W : World => colon_any s W hs
  have h1 : (cutA 58 s).size ≤ 1000 := Nat.le_trans (size_cutA _ _) hs
  have h2 : (cutZ 58 s).size ≤ 1000 := Nat.le_trans (size_cutZ _ _) hs
  have ha := fun W : World => all_ref (cutA 58 s) 1 50 csHost W h1 (by decide)
  have hd := fun W : World => all_ref (cutZ 58 s) 1 5 csDigit W h2 (by decide)
  rw [allR_is _ 50 csHost _ csHost_is] at ha
  rw [allR_is _ 5 csDigit _ csDigit_is] at hd
  unfold serverB
  generalize cutA 58 s = x1 at hc ha ⊢
  generalize cutZ 58 s = x2 at hc hd ⊢
  generalize cutT 58 s = x3 at hc ⊢
  generalize allB x1.data.toList 50 (withB [46, 45] plainB) = b1 at ha ⊢
  generalize allB x2.data.toList 5 digitB = b2 at hd ⊢
  clear h1 h2 hs
  cases b1 <;> cases x3
  all_goals
    go_enter Tryd.func25, Tryd.ntmps25
    go_wp2_with fail
    refine (hc _).mono ?_
    rintro e w1 ⟨rfl, hb1⟩
    go_wp2_with fail
    refine (ha _).mono ?_
    rintro e w' ⟨rfl, rfl⟩
    go_wp2_with (go_at_call 24; refine (hd _).mono ?_; rintro e w' ⟨rfl, rfl⟩)
    go_ret
    exact ⟨ret_bool (by simp), hb1⟩

/-- What the document's Split hands back. -/
def refSplitV (s : ByteArray) : Value :=
  if okB s then .tuple #[.int .i64 (kindB s), .string (partB s), .string (hostB s)] else .tuple #[.int .i64 0, .string ⟨#[]⟩, .string ⟨#[]⟩]

set_option maxHeartbeats 4000000 in
theorem refSplit_any (s : ByteArray) (w : World) (hs : s.size ≤ 1000) :
    Calls Tryd.prog 7 #[.string s] w fun e w' => e = .returned (refSplitV s) ∧ Below w.heap.size w w' := by
  by_cases h0 : s.size = 0
  · have hk := kindB_empty s h0
    have he : s.toList = [] := by
      rw [ByteArray.toList_eq]
      have e : s.data.toList.length = s.size := by simp
      exact List.length_eq_zero_iff.1 (by omega)
    have hv : refSplitV s = .tuple #[.int .i64 0, .string ⟨#[]⟩, .string ⟨#[]⟩] := by
      unfold refSplitV okB
      rw [hk]
      rfl
    rw [hv]
    clear hv hk h0
    go_enter Tryd.func7, Tryd.ntmps7
    go_wp2
    exact bodyPost_ret (v := .tuple #[.int .i64 0, .string ⟨#[]⟩, .string ⟨#[]⟩]) (by simp [results, Tryd.results7, go_sem]) rfl ⟨rfl, Below.refl _ _⟩
  · have hpos : 0 < s.size := by omega
    have hk := kindB_head s hpos
    have hne : s.toList.isEmpty = false := by
      rw [ByteArray.toList_eq]
      have e : s.data.toList.length = s.size := by simp
      cases hl : s.data.toList with
      | nil => rw [hl] at e; simp at e; omega
      | cons a l => rfl
    have hs2 : (s.extract 1 s.size).size ≤ 1000 := by simp only [ByteArray.size_extract]; omega
    have hc := fun W : World => colon_any (s.extract 1 s.size) W hs2
    have h1 : (partB s).size ≤ 1000 := Nat.le_trans (size_cutA _ _) hs2
    have h2 : (hostB s).size ≤ 1000 := Nat.le_trans (size_cutZ _ _) hs2
    have hsv := fun W : World => isServer_any (hostB s) W h2
    change ∀ W : World, Calls Tryd.prog 23 #[.string (s.extract 1 s.size)] W fun e w' => e = .returned (.tuple #[.string (partB s), .string (hostB s), .bool (twoB s)]) ∧ Below W.heap.size W w' at hc
    have ha := fun W : World => all_ref (partB s) 1 50 csUser W h1 (by decide)
    have ho := fun W : World => all_ref (partB s) 1 50 csRoom W h1 (by decide)
    rw [allR_is _ 50 csUser _ csUser_is] at ha
    rw [allR_is _ 50 csRoom _ csRoom_is] at ho
    unfold refSplitV okB fitB
    clear hs2 h1 h2 h0 hs
    generalize withB [46, 95, 61, 45, 47] plainB = fb at ha ⊢
    generalize kindB s = kd at hk ⊢
    generalize partB s = x1 at hc ha ho ⊢
    generalize hostB s = x2 at hc hsv ⊢
    generalize twoB s = x3 at hc ⊢
    generalize serverB x2 = b3 at hsv ⊢
    by_cases c1 : s[0].toNat = 33
    · rw [if_pos c1] at hk
      subst hk
      have e1 : (((s[0].toNat : Nat) : Int) == 33) = true := by rw [c1]; rfl
      clear c1
      rw [if_pos rfl]
      generalize allB x1.data.toList 50 opaqueB = b1 at ho ⊢
      have hall := ho
      clear ha ho
      cases x3 <;> cases b1 <;> cases b3
      all_goals
        go_enter Tryd.func7, Tryd.ntmps7
        go_wp2_with fail
        refine (hc _).mono ?_
        rintro e w2 ⟨rfl, hb2⟩
        go_wp2_with (first | (go_at_call 24; refine (hall _).mono ?_; rintro e w' ⟨rfl, rfl⟩) | (go_at_call 25; refine (hsv _).mono ?_; rintro e w3 ⟨rfl, hb3⟩))
        first
          | exact bodyPost_ret (v := .tuple #[.int .i64 0, .string ⟨#[]⟩, .string ⟨#[]⟩]) (by simp [results, Tryd.results7, go_sem]) rfl ⟨rfl, hb2⟩
          | exact bodyPost_ret (v := .tuple #[.int .i64 0, .string ⟨#[]⟩, .string ⟨#[]⟩]) (by simp [results, Tryd.results7, go_sem]) rfl ⟨rfl, hb2.trans (hb3.mono hb2.size)⟩
          | exact bodyPost_ret (v := .tuple #[.int .i64 1, .string x1, .string x2]) (by simp [results, Tryd.results7, go_sem]) rfl ⟨rfl, hb2.trans (hb3.mono hb2.size)⟩
    by_cases c2 : s[0].toNat = 64
    · rw [if_neg c1, if_pos c2] at hk
      subst hk
      have e1 : (((s[0].toNat : Nat) : Int) == 33) = false := by rw [c2]; rfl
      have e2 : (((s[0].toNat : Nat) : Int) == 64) = true := by rw [c2]; rfl
      clear c1 c2
      rw [if_neg (show ¬ (2 : Int) = 1 by decide)]
      generalize allB x1.data.toList 50 fb = b1 at ha ⊢
      have hall := ha
      clear ha ho
      cases x3 <;> cases b1 <;> cases b3
      all_goals
        go_enter Tryd.func7, Tryd.ntmps7
        go_wp2_with fail
        refine (hc _).mono ?_
        rintro e w2 ⟨rfl, hb2⟩
        go_wp2_with (first | (go_at_call 24; refine (hall _).mono ?_; rintro e w' ⟨rfl, rfl⟩) | (go_at_call 25; refine (hsv _).mono ?_; rintro e w3 ⟨rfl, hb3⟩))
        first
          | exact bodyPost_ret (v := .tuple #[.int .i64 0, .string ⟨#[]⟩, .string ⟨#[]⟩]) (by simp [results, Tryd.results7, go_sem]) rfl ⟨rfl, hb2⟩
          | exact bodyPost_ret (v := .tuple #[.int .i64 0, .string ⟨#[]⟩, .string ⟨#[]⟩]) (by simp [results, Tryd.results7, go_sem]) rfl ⟨rfl, hb2.trans (hb3.mono hb2.size)⟩
          | exact bodyPost_ret (v := .tuple #[.int .i64 2, .string x1, .string x2]) (by simp [results, Tryd.results7, go_sem]) rfl ⟨rfl, hb2.trans (hb3.mono hb2.size)⟩
    by_cases c3 : s[0].toNat = 35
    · rw [if_neg c1, if_neg c2, if_pos c3] at hk
      subst hk
      have e1 : (((s[0].toNat : Nat) : Int) == 33) = false := by rw [c3]; rfl
      have e2 : (((s[0].toNat : Nat) : Int) == 64) = false := by rw [c3]; rfl
      have e3 : (((s[0].toNat : Nat) : Int) == 35) = true := by rw [c3]; rfl
      clear c1 c2 c3
      rw [if_neg (show ¬ (3 : Int) = 1 by decide)]
      generalize allB x1.data.toList 50 fb = b1 at ha ⊢
      have hall := ha
      clear ha ho
      cases x3 <;> cases b1 <;> cases b3
      all_goals
        go_enter Tryd.func7, Tryd.ntmps7
        go_wp2_with fail
        refine (hc _).mono ?_
        rintro e w2 ⟨rfl, hb2⟩
        go_wp2_with (first | (go_at_call 24; refine (hall _).mono ?_; rintro e w' ⟨rfl, rfl⟩) | (go_at_call 25; refine (hsv _).mono ?_; rintro e w3 ⟨rfl, hb3⟩))
        first
          | exact bodyPost_ret (v := .tuple #[.int .i64 0, .string ⟨#[]⟩, .string ⟨#[]⟩]) (by simp [results, Tryd.results7, go_sem]) rfl ⟨rfl, hb2⟩
          | exact bodyPost_ret (v := .tuple #[.int .i64 0, .string ⟨#[]⟩, .string ⟨#[]⟩]) (by simp [results, Tryd.results7, go_sem]) rfl ⟨rfl, hb2.trans (hb3.mono hb2.size)⟩
          | exact bodyPost_ret (v := .tuple #[.int .i64 3, .string x1, .string x2]) (by simp [results, Tryd.results7, go_sem]) rfl ⟨rfl, hb2.trans (hb3.mono hb2.size)⟩
    rw [if_neg c1, if_neg c2, if_neg c3] at hk
    subst hk
    have e1 : (((s[0].toNat : Nat) : Int) == 33) = false := by rw [beq_eq_false_iff_ne]; omega
    have e2 : (((s[0].toNat : Nat) : Int) == 64) = false := by rw [beq_eq_false_iff_ne]; omega
    have e3 : (((s[0].toNat : Nat) : Int) == 35) = false := by rw [beq_eq_false_iff_ne]; omega
    clear c1 c2 c3 ho ha
    go_enter Tryd.func7, Tryd.ntmps7
    go_wp2_with fail
    refine (hc _).mono ?_
    rintro e w2 ⟨rfl, hb2⟩
    go_wp2_with fail
    exact bodyPost_ret (v := .tuple #[.int .i64 0, .string ⟨#[]⟩, .string ⟨#[]⟩]) (by simp [results, Tryd.results7, go_sem]) rfl ⟨rfl, hb2⟩

end Go.Proofs.YtmohbbmokcnbhaaDoor
