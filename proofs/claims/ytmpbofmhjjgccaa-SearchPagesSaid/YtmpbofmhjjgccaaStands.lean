/-
  Does a text stand in another one: the closure of Fits; ContainsFunc over texts.
-/
import Derived.Test.YtmpbofmhjjgccaaFold
import Derived.Test.YtmpbofmhjjgccaaOpers
import Derived.Test.YtmpbofmhjjgccaaShelf
namespace Go.Proofs.Ytmpbofmhjjgccaa
open Go.RowKit
set_option maxRecDepth 100000
set_option linter.unusedVariables false
set_option linter.unusedSimpArgs false

/-- The package's variable of internal/bytealg holds some integer. -/
def MaxAt (w : World) : Prop := ∃ m, w.cell? ⟨0, 0, none⟩ = some (.int .i64 m)
theorem MaxAt.below {w w' : World} (h : MaxAt w) (hb : Below w.heap.size w w') : MaxAt w' := by
  obtain ⟨m, hm⟩ := h
  exact ⟨m, (hb.cell (p := ⟨0, 0, none⟩) (World.block_lt_of_cell? w _ hm)).trans hm⟩

theorem load_oneStr {w : World} {a : Addr} {v : Value} (hc : w.cell? a = some v) : (loadVar 9 a).run Try.prog w = .ok v w := by
  simp [loadVar, isAgg, run_underlying Try.underlying9, load, hc]
  have hr := run_load (P := Try.prog) (w := w) a .plain
  rw [hc] at hr
  exact hr

def standsB (term x : ByteArray) : Bool := Lib.contains (foldS x).data.toList term.data.toList
def valSt (term x : ByteArray) : Nat → Value
  | 0 => .string x
  | 1 => .string (foldS x)
  | 2 => .string term
  | _ => .bool (standsB term x)

set_option maxHeartbeats 4000000 in
theorem stands_any (t : Addr) (term x : ByteArray) (w : World) (hM : MaxAt w) (ht : w.cell? t = some (.string term)) (hx : x.size < 4294967281) :
    Calls Try.prog 22 #[.string x, .pointer (some t)] w fun e w' => e = .returned (.bool (standsB term x)) ∧ Below w.heap.size w w' := by
  go_enter Try.func22, Try.ntmps22
  go_upto_region 1 with fail
  refine wp_name ?_
  intro a0 ha0
  have e0 : a0.eval (.tmp 0) = .string x := by rw [ha0]; rfl
  have e1 : a0.eval (.tmp 1) = .pointer (some t) := by rw [ha0]; rfl
  have hsz : 7 < a0.tmps.size := by rw [ha0]; exact Nat.le_of_ble_eq_true rfl
  refine wp_region_frame rfl [4, 5, 6, 7, 3] (by decide) (ValInv w (valSt term x)) ?_ ?_ ?_ ?_ ?_ ?_
  · intro i o ho
    rcases i with _ | _ | _ | _ | _ | i <;> first | (injection ho with ho; subst ho; rfl) | (simp at ho)
  · intro i o ho
    rcases i with _ | _ | _ | _ | _ | i <;> first | (injection ho with ho; subst ho; rfl) | (simp at ho)
  · intro i o ho
    rcases i with _ | _ | _ | _ | _ | i <;> first | (injection ho with ho; subst ho; simp) | (simp at ho)
  · exact ValInv.start _ _ _
  · intro L vs w' hI jj o ho hLi haf K hK
    rcases jj with _ | _ | _ | _ | _ | jj
    · injection ho with ho; subst ho
      refine BigFrame.wp_move (.tmp 0) rfl ?_
      rw [frameAt_out _ _ _ _ rfl, e0]
      exact hK _ _ (hI.step 0 (Below.refl _ _))
    · injection ho with ho; subst ho
      have l0 := haf ⟨0, .data⟩ (by simp) rfl
      refine wp_call_fnI 12 _ _ rfl Try.func12 (by kernel_rfl) (by kernel_rfl) (R := fun v w'' => v = .string (foldS x) ∧ Below w'.heap.size w' w'') ?_ (fun v w'' h => by obtain ⟨rfl, h2⟩ := h; exact hK _ _ (hI.step 1 h2))
      simp only [List.map_toArray, List.map_cons, List.map_nil]
      rw [frameAt_in _ _ _ 4 0 rfl (by omega), hI.vals 0 l0]
      exact (fold_any x w' (by unfold maxLen; omega)).mono fun ev w'' h => ⟨_, h.1, rfl, h.2⟩
    · injection ho with ho; subst ho
      exact wp_loadI 9 (.tmp 1) t _ rfl (by rw [frameAt_out _ _ _ _ rfl]; exact e1) (load_oneStr ((hI.below.cell (World.block_lt_of_cell? w _ ht)).trans ht)) (hK _ _ (hI.step 2 (Below.refl _ _)))
    · injection ho with ho; subst ho
      have l1 := haf ⟨1, .data⟩ (by simp) rfl
      have l2 := haf ⟨2, .data⟩ (by simp) rfl
      refine wp_call_fnI 23 _ _ rfl Try.func23 (by kernel_rfl) (by kernel_rfl) (R := fun v w'' => v = .bool (standsB term x) ∧ w'' = w') ?_ (fun v w'' h => by obtain ⟨rfl, rfl⟩ := h; exact hK _ _ (hI.step 3 (Below.refl _ _)))
      simp only [List.map_toArray, List.map_cons, List.map_nil]
      rw [frameAt_in _ _ _ 5 1 rfl (by omega), hI.vals 1 l1, frameAt_in _ _ _ 6 2 rfl (by omega), hI.vals 2 l2]
      obtain ⟨m, hm⟩ := hM.below hI.below
      exact (Try.strings_Contains (foldS x) term m w' (by rw [size_foldS]; exact hx) hm).mono fun ev w'' h => ⟨_, h.1, rfl, h.2⟩
    · injection ho with ho; subst ho
      have l3 := haf ⟨3, .data⟩ (by simp) rfl
      refine BigFrame.wp_assign (.tmp 7) rfl ?_
      rw [frameAt_in _ _ _ 7 3 rfl (by omega), hI.vals 3 l3]
      exact hK _ _ (hI.step 4 (Below.refl _ _))
    · simp at ho
  · intro L vs w' hI hall
    have h4 := hI.vals 4 (hall 4 (by decide))
    have hb := hI.below
    rw [frameAt_putAll a0 _ (by decide) vs, ha0]
    change vs 4 = .bool (standsB term x) at h4
    simp only [putAll, h4, Nat.reduceAdd]
    clear hI hall h4 e0 e1 hsz ha0
    change Exit.then _ _ .normal (Act.put (Act.mk _ _) _ _) w'
    simp only [Act.put, List.setIfInBounds_toArray, List.set_cons_succ, List.set_cons_zero]
    go_wp2_with fail
    go_ret
    exact ⟨rfl, hb⟩

/-- Texts in a row. -/
def StrsAt (w : World) (p : Option Addr) (zs : List ByteArray) : Prop := ∀ j s, zs[j]? = some s → ∃ a, p = some a ∧ w.cell? (a.add j) = some (.string s)
theorem StrsAt.below {w w' : World} {p : Option Addr} {zs : List ByteArray} (h : StrsAt w p zs) (hb : Below w.heap.size w w') : StrsAt w' p zs := fun j s hj => by
  obtain ⟨a, h1, h2⟩ := h j s hj
  exact ⟨a, h1, (hb.cell (World.block_lt_of_cell? w _ h2)).trans h2⟩
def idxP (p : ByteArray → Bool) (zs : List ByteArray) : Int := if zs.any p then (zs.findIdx p : Int) else -1

set_option maxHeartbeats 4000000 in
theorem indexFunc_any (A : Option Addr) (zs : List ByteArray) (c : Nat) (t : Addr) (term : ByteArray) (w : World) (hM : MaxAt w) (ht : w.cell? t = some (.string term)) (hz : StrsAt w A zs) (hl : zs.length ≤ 1000) (hs : ∀ s ∈ zs, s.size < 4294967281) :
    Calls Try.prog 27 #[.slice A zs.length c, .func (.func 22) #[] #[.pointer (some t)]] w fun e w' => (∃ i : Int, e = .returned (.int .i64 i) ∧ (0 ≤ i ↔ zs.any (standsB term) = true)) ∧ Below w.heap.size w w' := by
  have HZ := Lib.hid hz
  have HS := Lib.hid hs
  have HM := Lib.hid hM
  have HT := Lib.hid ht
  clear hz hs hM ht
  go_enter Try.func27, Try.ntmps27
  go_wp2_with fail
  go_loopw [8] (fun i wq => ∃ k : Nat, k ≤ zs.length ∧ i = .int .i64 k ∧ Below w.heap.size w wq ∧ Hid ((zs.take k).any (standsB term) = false)) (fun i _ => zs.length - (intOf i).toNat)
  case atStart => exact ⟨0, Nat.zero_le _, rfl, Below.refl _ _, Lib.hid (by simp)⟩
  case round =>
    obtain ⟨k, hk, rfl, hb, hno⟩ := hrel
    by_cases hlt : k < zs.length
    · obtain ⟨x, hx⟩ : ∃ x, zs[k]? = some x := ⟨_, List.getElem?_eq_getElem hlt⟩
      obtain ⟨a, rfl, ha⟩ := HZ.out k x hx
      have ck := (hb.cell (World.block_lt_of_cell? w _ ha)).trans ha
      have h1 := stands_any t term x wr (HM.out.below hb) ((hb.cell (World.block_lt_of_cell? w _ HT.out)).trans HT.out) (HS.out x (List.mem_of_getElem? hx))
      have hsn : (zs.take (k + 1)).any (standsB term) = standsB term x := by
        rw [List.take_add_one, hx, List.any_append, hno.out]
        simp
      have HSN := Lib.hid hsn
      have HX := Lib.hid hx
      clear ha hsn hx
      cases hp : standsB term x
      · rw [hp] at h1 HSN
        clear hp
        go_wp2_with fail
        refine h1.mono ?_
        rintro e w' ⟨rfl, hb1⟩
        have hb2 := hb.trans (hb1.mono hb.size)
        clear h1
        go_wp2_with fail
        go_roundw
        case rel => exact ⟨k + 1, by omega, by go_num, hb2, HSN⟩
        case measure => simp [intOf]; omega
      · rw [hp] at h1
        have hany : zs.any (standsB term) = true := List.any_eq_true.2 ⟨x, List.mem_of_getElem? HX.out, hp⟩
        have HANY := Lib.hid hany
        clear hp hany
        go_wp2_with fail
        refine h1.mono ?_
        rintro e w' ⟨rfl, hb1⟩
        have hb2 := hb.trans (hb1.mono hb.size)
        clear h1
        go_wp2_with fail
        go_ret
        exact ⟨⟨k, rfl, by rw [HANY.out]; simp⟩, hb2⟩
    · have hkz : k = zs.length := by omega
      subst hkz
      go_wp2_with fail
      go_ret
      refine ⟨⟨-1, rfl, ?_⟩, hb⟩
      have := hno.out
      rw [List.take_length] at this
      rw [this]
      simp

set_option maxHeartbeats 4000000 in
theorem containsFunc_any (A : Option Addr) (zs : List ByteArray) (c : Nat) (t : Addr) (term : ByteArray) (w : World) (hM : MaxAt w) (ht : w.cell? t = some (.string term)) (hz : StrsAt w A zs) (hl : zs.length ≤ 1000) (hs : ∀ s ∈ zs, s.size < 4294967281) :
    Calls Try.prog 24 #[.slice A zs.length c, .func (.func 22) #[] #[.pointer (some t)]] w fun e w' => e = .returned (.bool (zs.any (standsB term))) ∧ Below w.heap.size w w' := by
  have h1 := indexFunc_any A zs c t term w hM ht hz hl hs
  clear hM ht hz hs
  generalize zs.any (standsB term) = b at h1 ⊢
  generalize zs.length = n at h1 ⊢
  go_enter Try.func24, Try.ntmps24
  go_wp2_with fail
  refine h1.mono ?_
  rintro e w' ⟨⟨i, rfl, hi⟩, hb⟩
  cases b
  · have hneg : ¬ 0 ≤ i := fun h => by have := hi.1 h; cases this
    clear hi h1
    go_wp2_with fail
    go_ret
    exact ⟨ret_boolF (by simpa using hneg), hb⟩
  · have hpos : 0 ≤ i := hi.2 rfl
    clear hi h1
    go_wp2_with fail
    go_ret
    exact ⟨ret_boolF (by simp), hb⟩

end Go.Proofs.Ytmpbofmhjjgccaa
