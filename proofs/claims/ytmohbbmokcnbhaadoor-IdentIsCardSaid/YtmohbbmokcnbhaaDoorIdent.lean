/-
  The walks of 'ident': all, with, server, event, Split, Is, Of.
-/
import Derived.Test.YtmohbbmokcnbhaaDoorIdentFits
namespace Go.Proofs.YtmohbbmokcnbhaaDoor
open Go.RowKit
set_option linter.unusedVariables false

theorem all_snoc (s : ByteArray) (k : Nat) (h : k < s.size) (p : UInt8 → Bool) (ha : (s.data.toList.take k).all p = true) : (s.data.toList.take (k + 1)).all p = p s[k] := by
  rw [List.take_succ_eq_append_getElem (by simpa using h), List.all_append, ha]
  simp
  rfl

theorem all_false_of (s : ByteArray) (k : Nat) (h : k < s.size) (p : UInt8 → Bool) (hp : p s[k] = false) : s.data.toList.all p = false := by
  rw [List.all_eq_false]
  exact ⟨s[k], Array.mem_toList_iff.2 (Array.getElem_mem (xs := s.data) h), by simp [hp]⟩

set_option maxHeartbeats 400000 in
theorem all_any (s : ByteArray) (most : Int) (g : Nat) (lb : Array Value) (p : UInt8 → Bool) (w : World) (hs : s.size ≤ maxLen)
    (eg : ∀ args w, (callFunc g args).run Tryd.prog w = .ok (.enter g args) w) (hf : FitAt Tryd.prog g lb p w) :
    Calls Tryd.prog 21 #[.string s, .int .i64 most, .func (.func g) #[] lb] w fun e w' => e = .returned (.bool (allB s.data.toList most p)) ∧ w = w' := by
  unfold maxLen at hs
  go_enter Tryd.func21, Tryd.ntmps21
  go_wp2
  go_loop [10] (fun i => ∃ k : Nat, k ≤ s.size ∧ i = .int .i64 k ∧ Hid ((s.data.toList.take k).all p = true)) (fun i => s.size - (intOf i).toNat)
  case atStart => exact ⟨0, Nat.zero_le _, rfl, by simp [Hid]⟩
  case round =>
    obtain ⟨k, hk, rfl, hall⟩ := hrel
    by_cases hlt : k < s.size
    · have hd := hf w s[k] (Below.refl _ _)
      have hsn := all_snoc s k hlt p hall.out
      have hno := all_false_of s k hlt p
      cases hp : p s[k]
      · have hno2 := Lib.hid (hno hp)
        rw [hp] at hd
        clear hsn hp hno
        go_wp2_with (go_at_fn g; refine hd.mono ?_; rintro e w' ⟨rfl, rfl⟩)
        go_ret
        exact ⟨ret_bool (by unfold allB; rw [hno2.out]; rfl), rfl⟩
      · rw [hp] at hd hsn
        have hsn2 := Lib.hid hsn
        clear hsn hp hno
        go_wp2_with (go_at_fn g; refine hd.mono ?_; rintro e w' ⟨rfl, rfl⟩)
        go_round
        case rel => exact ⟨k + 1, by omega, by go_num, hsn2⟩
        case measure => simp [intOf]; omega
    · have hk2 : k = s.size := by omega
      subst hk2
      have ha : s.data.toList.all p = true := by
        have := hall.out
        rwa [List.take_of_length_le (by simp)] at this
      have Ha := Lib.hid ha
      clear ha hall
      go_wp2
      all_goals
        go_ret
        refine ⟨ret_bool ?_, rfl⟩
        have he : (s.toList = []) = (s.data.toList = []) := by rw [ByteArray.toList_eq]
        have hl : s.data.toList.length = s.size := by simp
        unfold allB
        rw [Ha.out, hl]
        rename_i hne _
        rw [he] at hne
        simp [hne, ByteArray.toList_eq]

theorem enters_digit : ∀ args w, (callFunc 37 args).run Tryd.prog w = .ok (.enter 37 args) w := enters_of Tryd.func37 (by kernel_rfl) rfl
theorem enters_plain : ∀ args w, (callFunc 18 args).run Tryd.prog w = .ok (.enter 18 args) w := enters_of Tryd.func18 (by kernel_rfl) rfl
theorem enters_opaque : ∀ args w, (callFunc 19 args).run Tryd.prog w = .ok (.enter 19 args) w := enters_of Tryd.func19 (by kernel_rfl) rfl
theorem enters_hex : ∀ args w, (callFunc 41 args).run Tryd.prog w = .ok (.enter 41 args) w := enters_of Tryd.func41 (by kernel_rfl) rfl
theorem enters_with1 : ∀ args w, (callFunc 35 args).run Tryd.prog w = .ok (.enter 35 args) w := enters_of Tryd.func35 (by kernel_rfl) rfl

/-- What 'with' hands back: a function value that answers 'withB', in this world and all later ones. -/
def WithPost (P : Program) (more : ByteArray) (p : UInt8 → Bool) (w : World) (e : Ending) (w' : World) : Prop :=
  ∃ lb, e = .returned (.func (.func 35) #[] lb) ∧ Below w.heap.size w w' ∧ FitAt P 35 lb (withB more.data.toList p) w'

set_option maxHeartbeats 400000 in
theorem with_any (more : ByteArray) (g : Nat) (lb : Array Value) (p : UInt8 → Bool) (w : World)
    (eg : ∀ args w, (callFunc g args).run Tryd.prog w = .ok (.enter g args) w) (hf : FitAt Tryd.prog g lb p w) :
    Calls Tryd.prog 17 #[.string more, .func (.func g) #[] lb] w (WithPost Tryd.prog more p w) := by
  go_enter Tryd.func17, Tryd.ntmps17
  go_wp2
  go_ret
  have hb : Below w.heap.size w ((w.alloc (.cells #[.string more] 9)).alloc (.cells #[.func (.func g) #[] lb] 47)) := ((Below.refl _ w).alloc (Nat.le_refl _) _).alloc (by simp) _
  exact ⟨_, rfl, hb, with_fit _ more g lb p _ _ eg (hf.later hb) (by simp) (by simp; omega) (by simp) (by simp)⟩

/-- Is a text a server's name? -/
def serverB (s : ByteArray) : Bool :=
  allB (cutA 58 s).data.toList 50 (withB [46, 45] plainB) && (!cutT 58 s || allB (cutZ 58 s).data.toList 5 digitB)

theorem size_cutA (c : UInt8) (s : ByteArray) : (cutA c s).size ≤ s.size := by
  unfold cutA; split
  · simp only [ByteArray.size_extract]; omega
  · exact Nat.le_refl _
theorem size_cutZ (c : UInt8) (s : ByteArray) : (cutZ c s).size ≤ s.size := by
  unfold cutZ; split
  · simp only [ByteArray.size_extract]; omega
  · exact Nat.zero_le _

set_option maxHeartbeats 400000 in
theorem server_any (s : ByteArray) (w : World) (hs : s.size ≤ maxLen) :
    Calls Tryd.prog 22 #[.string s] w fun e w' => e = .returned (.bool (serverB s)) ∧ Below w.heap.size w w' := by
  have hc := fun W : World => strings_Cut1 s 58 W hs
  have h1 : (cutA 58 s).size ≤ maxLen := Nat.le_trans (size_cutA _ _) hs
  have h2 : (cutZ 58 s).size ≤ maxLen := Nat.le_trans (size_cutZ _ _) hs
  unfold serverB
  generalize cutA 58 s = x1 at hc h1 ⊢
  generalize cutZ 58 s = x2 at hc h2 ⊢
  generalize cutT 58 s = x3 at hc ⊢
  have hd := fun W : World => all_any x2 5 _ _ _ W h2 enters_digit (digit_fit W)
  have hw := fun W : World => with_any ⟨#[46, 45]⟩ _ _ _ W enters_plain (plain_fit W)
  have ha := fun (lb : Array Value) (W : World) (hf : FitAt Tryd.prog 35 lb (withB [46, 45] plainB) W) => all_any x1 50 _ lb _ W h1 enters_with1 hf
  clear hs h2 h1
  unfold WithPost at hw
  simp only at hw
  generalize withB [46, 45] plainB = fb at hw ha ⊢
  generalize allB x2.data.toList 5 digitB = b2 at hd ⊢
  generalize allB x1.data.toList 50 fb = b1 at ha ⊢
  cases b1 <;> cases x3
  all_goals
    go_enter Tryd.func22, Tryd.ntmps22
    go_wp2_with (go_at_call 20; refine (hc _).mono ?_; rintro e w' ⟨rfl, q, rfl⟩)
    refine (hw _).mono ?_
    rintro e w1 ⟨lb, rfl, hb1, hf1⟩
    go_wp2_with fail
    refine (ha _ _ hf1).mono ?_
    rintro e w' ⟨rfl, rfl⟩
    go_wp2_with (go_at_call 21; refine (hd _).mono ?_; rintro e w' ⟨rfl, rfl⟩)
    go_ret
    exact ⟨ret_bool (by simp), (below_drewN1 (Below.refl _ w) q).trans hb1⟩

/-- Is a text an event's id? -/
def eventB (s : ByteArray) : Bool := headB 36 s && decide (s.size = 17) && allB (prefA 36 s).data.toList 17 hexB

theorem size_prefA (c : UInt8) (s : ByteArray) : (prefA c s).size ≤ s.size := by
  unfold prefA; split
  · simp only [ByteArray.size_extract]; omega
  · exact Nat.le_refl _

set_option maxHeartbeats 400000 in
theorem event_any (s : ByteArray) (w : World) (hs : s.size ≤ maxLen) :
    Calls Tryd.prog 27 #[.string s] w fun e w' => e = .returned (.bool (eventB s)) ∧ w = w' := by
  have hc := fun W : World => strings_CutPrefix1 s 36 W hs
  have hd := fun W : World => all_any (prefA 36 s) 17 _ _ _ W (Nat.le_trans (size_prefA _ _) hs) enters_hex (hex_fit W)
  unfold maxLen at hs
  unfold eventB
  generalize allB (prefA 36 s).data.toList 17 hexB = b2 at hd ⊢
  generalize prefA 36 s = x1 at hc hd ⊢
  generalize headB 36 s = x2 at hc ⊢
  by_cases hz : s.size = 17
  · have hz2 : ((s.size : Int) == 17) = true := by rw [hz]; rfl
    rw [decide_eq_true hz]
    clear hz
    cases x2
    all_goals
      go_enter Tryd.func27, Tryd.ntmps27
      go_wp2_with (first | (go_at_call 40; refine (hc _).mono ?_; rintro e w' ⟨rfl, rfl⟩) | (go_at_call 21; refine (hd _).mono ?_; rintro e w' ⟨rfl, rfl⟩))
      go_ret
      exact ⟨ret_bool (by simp), rfl⟩
  · have hz2 : ((s.size : Int) == 17) = false := by rw [beq_eq_false_iff_ne]; omega
    rw [decide_eq_false hz]
    clear hz
    cases x2
    all_goals
      go_enter Tryd.func27, Tryd.ntmps27
      go_wp2_with (first | (go_at_call 40; refine (hc _).mono ?_; rintro e w' ⟨rfl, rfl⟩) | (go_at_call 21; refine (hd _).mono ?_; rintro e w' ⟨rfl, rfl⟩))
      go_ret
      exact ⟨ret_bool (by simp), rfl⟩

/-- The kind that a text's first byte tells: 0: none. -/
def kindB (s : ByteArray) : Int := match s.data.toList.head? with
  | some c => if c.toNat = 33 then 1 else if c.toNat = 64 then 2 else if c.toNat = 35 then 3 else 0
  | none => 0
def partB (s : ByteArray) : ByteArray := cutA 58 (s.extract 1 s.size)
def hostB (s : ByteArray) : ByteArray := cutZ 58 (s.extract 1 s.size)
def twoB (s : ByteArray) : Bool := cutT 58 (s.extract 1 s.size)
def fitB (k : Int) : UInt8 → Bool := if k = 1 then opaqueB else withB [46, 95, 61, 45, 47] plainB
def okB (s : ByteArray) : Bool := decide (kindB s ≠ 0) && (twoB s && allB (partB s).data.toList 50 (fitB (kindB s)) && serverB (hostB s))
/-- What Split hands back. -/
def splitV (s : ByteArray) : Value :=
  if okB s then .tuple #[.int .i64 (kindB s), .string (partB s), .string (hostB s), .nilIface]
  else .tuple #[.int .i64 0, .string ⟨#[]⟩, .string ⟨#[]⟩, .iface 41 (.int .i64 7)]

theorem kindB_empty (s : ByteArray) (h : s.size = 0) : kindB s = 0 := by
  have hl : s.data.toList.length = 0 := by have e : s.data.toList.length = s.size := by simp
                                           omega
  unfold kindB
  rw [List.length_eq_zero_iff.1 hl]
  rfl
theorem kindB_head (s : ByteArray) (h : 0 < s.size) : kindB s = if s[0].toNat = 33 then 1 else if s[0].toNat = 64 then 2 else if s[0].toNat = 35 then 3 else 0 := by
  have e : s.data.toList.head? = some s[0] := by
    rw [List.head?_eq_getElem?, List.getElem?_eq_getElem (by simpa using h)]
    rfl
  unfold kindB
  rw [e]

set_option maxHeartbeats 1000000 in
theorem split_any (s : ByteArray) (w : World) (hs : s.size ≤ maxLen) :
    Calls Tryd.prog 6 #[.string s] w fun e w' => e = .returned (splitV s) ∧ Below w.heap.size w w' := by
  by_cases h0 : s.size = 0
  · have hk := kindB_empty s h0
    have he : s.toList = [] := by
      rw [ByteArray.toList_eq]
      have e : s.data.toList.length = s.size := by simp
      exact List.length_eq_zero_iff.1 (by omega)
    have hv : splitV s = .tuple #[.int .i64 0, .string ⟨#[]⟩, .string ⟨#[]⟩, .iface 41 (.int .i64 7)] := by
      unfold splitV okB
      rw [hk]
      rfl
    rw [hv]
    clear hv hk h0
    go_enter Tryd.func6, Tryd.ntmps6
    go_wp2
    exact bodyPost_ret (v := .tuple #[.int .i64 0, .string ⟨#[]⟩, .string ⟨#[]⟩, .iface 41 (.int .i64 7)]) (by simp [results, Tryd.results6, go_sem]) rfl ⟨rfl, Below.refl _ _⟩
  · have hpos : 0 < s.size := by omega
    have hk := kindB_head s hpos
    have hne : s.toList.isEmpty = false := by
      rw [ByteArray.toList_eq]
      have e : s.data.toList.length = s.size := by simp
      cases hl : s.data.toList with
      | nil => rw [hl] at e; simp at e; omega
      | cons a l => rfl
    have hs2 : (s.extract 1 s.size).size ≤ maxLen := by simp only [ByteArray.size_extract]; omega
    have hc := fun W : World => strings_Cut1 (s.extract 1 s.size) 58 W hs2
    have h1 : (partB s).size ≤ maxLen := Nat.le_trans (size_cutA _ _) hs2
    have h2 : (hostB s).size ≤ maxLen := Nat.le_trans (size_cutZ _ _) hs2
    have hsv := fun W : World => server_any (hostB s) W h2
    change ∀ W : World, Calls Tryd.prog 20 #[.string (s.extract 1 s.size), .string ⟨#[58]⟩] W fun e w' => e = .returned (.tuple #[.string (partB s), .string (hostB s), .bool (twoB s)]) ∧ ∃ q, w' = W.drewN q at hc
    have hw := fun W : World => with_any ⟨#[46, 95, 61, 45, 47]⟩ _ _ _ W enters_plain (plain_fit W)
    have ha := fun (lb : Array Value) (W : World) (hf : FitAt Tryd.prog 35 lb (withB [46, 95, 61, 45, 47] plainB) W) => all_any (partB s) 50 _ lb _ W h1 enters_with1 hf
    have ho := fun W : World => all_any (partB s) 50 _ _ _ W h1 enters_opaque (opaque_fit W)
    unfold WithPost at hw
    simp only at hw
    unfold splitV okB fitB
    unfold maxLen at hs
    clear hs2 h1 h2 h0
    generalize withB [46, 95, 61, 45, 47] plainB = fb at hw ha ⊢
    generalize kindB s = kd at hk ⊢
    generalize partB s = x1 at hc ha ho ⊢
    generalize hostB s = x2 at hc hsv ⊢
    generalize twoB s = x3 at hc ⊢
    generalize serverB x2 = b2 at hsv ⊢
    by_cases c1 : s[0].toNat = 33
    · rw [if_pos c1] at hk
      subst hk
      have e1 : (((s[0].toNat : Nat) : Int) == 33) = true := by rw [c1]; rfl
      clear c1
      rw [if_pos rfl]
      generalize allB x1.data.toList 50 opaqueB = b1 at ho ⊢
      clear ha
      cases x3 <;> cases b1 <;> cases b2
      all_goals
        go_enter Tryd.func6, Tryd.ntmps6
        go_wp2_with fail
        refine (hw _).mono ?_
        rintro e w1 ⟨lb, rfl, hb1, hf1⟩
        go_wp2_with fail
        refine (hc _).mono ?_
        rintro e w2 ⟨rfl, q, rfl⟩
        have hb2 := below_drewN1 hb1 q
        have hall := ho (w1.drewN q)
        clear hf1 hb1
        go_wp2_with (first | (go_at_call 21; refine hall.mono ?_; rintro e w' ⟨rfl, rfl⟩) | (go_at_call 22; refine (hsv _).mono ?_; rintro e w3 ⟨rfl, hb3⟩))
        first
          | exact bodyPost_ret (v := .tuple #[.int .i64 0, .string ⟨#[]⟩, .string ⟨#[]⟩, .iface 41 (.int .i64 7)]) (by simp [results, Tryd.results6, go_sem]) rfl ⟨rfl, hb2⟩
          | exact bodyPost_ret (v := .tuple #[.int .i64 0, .string ⟨#[]⟩, .string ⟨#[]⟩, .iface 41 (.int .i64 7)]) (by simp [results, Tryd.results6, go_sem]) rfl ⟨rfl, hb2.trans (hb3.mono hb2.size)⟩
          | exact bodyPost_ret (v := .tuple #[.int .i64 1, .string x1, .string x2, .nilIface]) (by simp [results, Tryd.results6, go_sem]) rfl ⟨rfl, hb2.trans (hb3.mono hb2.size)⟩
    by_cases c2 : s[0].toNat = 64
    · rw [if_neg c1, if_pos c2] at hk
      subst hk
      have e1 : (((s[0].toNat : Nat) : Int) == 33) = false := by rw [c2]; rfl
      have e2 : (((s[0].toNat : Nat) : Int) == 64) = true := by rw [c2]; rfl
      clear c1 c2
      rw [if_neg (show ¬ (2 : Int) = 1 by decide)]
      generalize allB x1.data.toList 50 fb = b1 at ha ⊢
      clear ho
      cases x3 <;> cases b1 <;> cases b2
      all_goals
        go_enter Tryd.func6, Tryd.ntmps6
        go_wp2_with fail
        refine (hw _).mono ?_
        rintro e w1 ⟨lb, rfl, hb1, hf1⟩
        go_wp2_with fail
        refine (hc _).mono ?_
        rintro e w2 ⟨rfl, q, rfl⟩
        have hb2 := below_drewN1 hb1 q
        have hall := ha lb _ (hf1.later (below_drewN1 (Below.refl _ w1) q))
        clear hf1 hb1
        go_wp2_with (first | (go_at_call 21; refine hall.mono ?_; rintro e w' ⟨rfl, rfl⟩) | (go_at_call 22; refine (hsv _).mono ?_; rintro e w3 ⟨rfl, hb3⟩))
        first
          | exact bodyPost_ret (v := .tuple #[.int .i64 0, .string ⟨#[]⟩, .string ⟨#[]⟩, .iface 41 (.int .i64 7)]) (by simp [results, Tryd.results6, go_sem]) rfl ⟨rfl, hb2⟩
          | exact bodyPost_ret (v := .tuple #[.int .i64 0, .string ⟨#[]⟩, .string ⟨#[]⟩, .iface 41 (.int .i64 7)]) (by simp [results, Tryd.results6, go_sem]) rfl ⟨rfl, hb2.trans (hb3.mono hb2.size)⟩
          | exact bodyPost_ret (v := .tuple #[.int .i64 2, .string x1, .string x2, .nilIface]) (by simp [results, Tryd.results6, go_sem]) rfl ⟨rfl, hb2.trans (hb3.mono hb2.size)⟩
    by_cases c3 : s[0].toNat = 35
    · rw [if_neg c1, if_neg c2, if_pos c3] at hk
      subst hk
      have e1 : (((s[0].toNat : Nat) : Int) == 33) = false := by rw [c3]; rfl
      have e2 : (((s[0].toNat : Nat) : Int) == 64) = false := by rw [c3]; rfl
      have e3 : (((s[0].toNat : Nat) : Int) == 35) = true := by rw [c3]; rfl
      clear c1 c2 c3
      rw [if_neg (show ¬ (3 : Int) = 1 by decide)]
      generalize allB x1.data.toList 50 fb = b1 at ha ⊢
      clear ho
      cases x3 <;> cases b1 <;> cases b2
      all_goals
        go_enter Tryd.func6, Tryd.ntmps6
        go_wp2_with fail
        refine (hw _).mono ?_
        rintro e w1 ⟨lb, rfl, hb1, hf1⟩
        go_wp2_with fail
        refine (hc _).mono ?_
        rintro e w2 ⟨rfl, q, rfl⟩
        have hb2 := below_drewN1 hb1 q
        have hall := ha lb _ (hf1.later (below_drewN1 (Below.refl _ w1) q))
        clear hf1 hb1
        go_wp2_with (first | (go_at_call 21; refine hall.mono ?_; rintro e w' ⟨rfl, rfl⟩) | (go_at_call 22; refine (hsv _).mono ?_; rintro e w3 ⟨rfl, hb3⟩))
        first
          | exact bodyPost_ret (v := .tuple #[.int .i64 0, .string ⟨#[]⟩, .string ⟨#[]⟩, .iface 41 (.int .i64 7)]) (by simp [results, Tryd.results6, go_sem]) rfl ⟨rfl, hb2⟩
          | exact bodyPost_ret (v := .tuple #[.int .i64 0, .string ⟨#[]⟩, .string ⟨#[]⟩, .iface 41 (.int .i64 7)]) (by simp [results, Tryd.results6, go_sem]) rfl ⟨rfl, hb2.trans (hb3.mono hb2.size)⟩
          | exact bodyPost_ret (v := .tuple #[.int .i64 3, .string x1, .string x2, .nilIface]) (by simp [results, Tryd.results6, go_sem]) rfl ⟨rfl, hb2.trans (hb3.mono hb2.size)⟩
    rw [if_neg c1, if_neg c2, if_neg c3] at hk
    subst hk
    have e1 : (((s[0].toNat : Nat) : Int) == 33) = false := by rw [beq_eq_false_iff_ne]; omega
    have e2 : (((s[0].toNat : Nat) : Int) == 64) = false := by rw [beq_eq_false_iff_ne]; omega
    have e3 : (((s[0].toNat : Nat) : Int) == 35) = false := by rw [beq_eq_false_iff_ne]; omega
    clear c1 c2 c3 ho ha
    go_enter Tryd.func6, Tryd.ntmps6
    go_wp2_with fail
    refine (hw _).mono ?_
    rintro e w1 ⟨lb, rfl, hb1, hf1⟩
    go_wp2_with fail
    exact bodyPost_ret (v := .tuple #[.int .i64 0, .string ⟨#[]⟩, .string ⟨#[]⟩, .iface 41 (.int .i64 7)]) (by simp [results, Tryd.results6, go_sem]) rfl ⟨rfl, hb1⟩

/-- Is a text a name of a kind? -/
def isB (k : Int) (s : ByteArray) : Bool := if k = 4 then eventB s else if k = 5 then serverB s else okB s && (kindB s == k)

set_option maxHeartbeats 400000 in
theorem is_any (k : Int) (s : ByteArray) (w : World) (hs : s.size ≤ maxLen) :
    Calls Tryd.prog 11 #[.int .i64 k, .string s] w fun e w' => e = .returned (.bool (isB k s)) ∧ Below w.heap.size w w' := by
  have hev := fun W : World => event_any s W hs
  have hsv := fun W : World => server_any s W hs
  have hsp := fun W : World => split_any s W hs
  clear hs
  unfold isB
  unfold splitV at hsp
  generalize eventB s = b1 at hev ⊢
  generalize serverB s = b2 at hsv ⊢
  generalize partB s = x1 at hsp
  generalize hostB s = x2 at hsp
  generalize kindB s = x3 at hsp ⊢
  by_cases c1 : k = 4
  · rw [if_pos c1]
    subst c1
    go_enter Tryd.func11, Tryd.ntmps11
    go_wp2_with (go_at_call 27; refine (hev _).mono ?_; rintro e w' ⟨rfl, rfl⟩)
    go_ret
    exact ⟨rfl, Below.refl _ _⟩
  · rw [if_neg c1]
    have e1 : (k == 4) = false := by rw [beq_eq_false_iff_ne]; exact c1
    by_cases c2 : k = 5
    · rw [if_pos c2]
      subst c2
      go_enter Tryd.func11, Tryd.ntmps11
      go_wp2_with (go_at_call 22; refine (hsv _).mono ?_; rintro e w' ⟨rfl, hb⟩)
      go_ret
      exact ⟨rfl, hb⟩
    · rw [if_neg c2]
      have e2 : (k == 5) = false := by rw [beq_eq_false_iff_ne]; exact c2
      clear c1 c2
      cases ho : okB s
      all_goals
        rw [ho] at hsp
        clear ho
        go_enter Tryd.func11, Tryd.ntmps11
        go_wp2_with (go_at_call 6; refine (hsp _).mono ?_; rintro e w' ⟨rfl, hb⟩)
        go_ret
        exact ⟨ret_bool (by simp), hb⟩

def ofB (s : ByteArray) : ByteArray := if okB s then hostB s else ⟨#[]⟩

set_option maxHeartbeats 400000 in
theorem of_any (s : ByteArray) (w : World) (hs : s.size ≤ maxLen) :
    Calls Tryd.prog 8 #[.string s] w fun e w' => e = .returned (.string (ofB s)) ∧ Below w.heap.size w w' := by
  have hsp := fun W : World => split_any s W hs
  clear hs
  unfold ofB
  unfold splitV at hsp
  generalize partB s = x1 at hsp
  generalize hostB s = x2 at hsp ⊢
  generalize kindB s = x3 at hsp
  cases ho : okB s
  all_goals
    rw [ho] at hsp
    clear ho
    go_enter Tryd.func8, Tryd.ntmps8
    go_wp2_with (go_at_call 6; refine (hsp _).mono ?_; rintro e w' ⟨rfl, hb⟩)
    go_ret
    exact ⟨rfl, hb⟩

end Go.Proofs.YtmohbbmokcnbhaaDoor
