/-
  The closure of Find; IndexFunc over summaries.
-/
import Derived.Test.YtmpbofmhjjgccaaFits
import Derived.Test.YtmpbofmhjjgccaaSeg
namespace Go.Proofs.Ytmpbofmhjjgccaa
open Go.RowKit
set_option maxRecDepth 100000
set_option linter.unusedVariables false
set_option linter.unusedSimpArgs false

theorem size_S : (Try.prog.info? 42).map (·.size) = some 10 := by kernel_rfl
/-- The question in a block. -/
def QAt (w : World) (g : Nat) (q : QV) (p : Option Addr) (c : Nat) : Prop := w.heap[g]? = some (.cells (q.cells p c).toArray 29 (0, 0))
theorem QAt.below {w w' : World} {g : Nat} {q : QV} {p : Option Addr} {c : Nat} (h : QAt w g q p c) (hb : Below w.heap.size w w') : QAt w' g q p c := (hb.block g (blk_lt h)).trans h
/-- Summaries in a row of their own. -/
def sumC (l : List SV) : List Value := l.flatMap SV.cells
def RowS (w : World) (g : Nat) (l : List SV) (sp : List Value) : Prop := w.heap[g]? = some (.cells (sumC l ++ sp).toArray 42 (0, 0))
theorem RowS.below {w w' : World} {g : Nat} {l : List SV} {sp : List Value} (h : RowS w g l sp) (hb : Below w.heap.size w w') : RowS w' g l sp := (hb.block g (blk_lt h)).trans h
theorem len_sumC : ∀ l : List SV, (sumC l).length = l.length * 10
  | [] => rfl
  | x :: l => by
    unfold sumC
    rw [List.flatMap_cons, List.length_append, List.length_cons]
    have := len_sumC l
    unfold sumC at this
    rw [this]
    show 10 + _ = _
    omega
theorem sum_get : ∀ (l : List SV) (sp : List Value) (j : Nat) (x : SV) (i : Nat) (v : Value), l[j]? = some x → x.cells[i]? = some v → (sumC l ++ sp)[j * 10 + i]? = some v
  | [], sp, j, x, i, v, h, _ => by simp at h
  | y :: l, sp, 0, x, i, v, h, hi => by
    injection h with h
    subst h
    unfold sumC
    rw [List.flatMap_cons, List.append_assoc, Nat.zero_mul, Nat.zero_add, List.getElem?_append_left (List.getElem?_eq_some_iff.1 hi).1]
    exact hi
  | y :: l, sp, j + 1, x, i, v, h, hi => by
    unfold sumC
    rw [List.flatMap_cons, List.append_assoc, List.getElem?_append_right (by show 10 ≤ _; omega), show (j + 1) * 10 + i - y.cells.length = j * 10 + i by show _ - 10 = _; omega]
    exact sum_get l sp j x i v (by simpa using h) hi
theorem RowS.cell {w : World} {g : Nat} {l : List SV} {sp : List Value} (h : RowS w g l sp) (j : Nat) (x : SV) (hj : l[j]? = some x) (i : Nat) (v : Value) (hi : x.cells[i]? = some v) : w.cell? ⟨g, j * 10 + i, none⟩ = some v := by
  rw [blk_cell h, List.getElem?_toArray]
  exact sum_get l sp j x i v hj hi

set_option maxHeartbeats 4000000 in
theorem del_any (g : Nat) (q : QV) (p : Option Addr) (c : Nat) (x : SV) (w : World) (hQ : QAt w g q p c) (hM : MaxAt w) (hT : TypesAt w p q.types) (hl : q.types.length ≤ 1000) (hq : q.term.size ≤ maxLen) (hx : SmallS x) :
    Calls Try.prog 16 #[.agg x.cells.toArray, .pointer (some ⟨g, 0, none⟩)] w fun e w' => e = .returned (.bool (!fitsB q x)) ∧ Below w.heap.size w w' := by
  have hb0 : Below w.heap.size w (w.alloc (.cells x.cells.toArray 42)) := (Below.refl _ w).alloc (Nat.le_refl _) _
  have hQ1 := hQ.below hb0
  have h1 := fits_any q p c x _ (hM.below hb0) (hT.below hb0) hl hq hx
  have q0 : (w.alloc (.cells x.cells.toArray 42)).cell? ⟨g, 0, none⟩ = some (.string q.term) := by rw [blk_cell hQ1]; rfl
  have q1 : (w.alloc (.cells x.cells.toArray 42)).cell? ⟨g, 1, none⟩ = some (.slice p q.types.length c) := by rw [blk_cell hQ1]; rfl
  have q2 : (w.alloc (.cells x.cells.toArray 42)).cell? ⟨g, 2, none⟩ = some (.int .i64 q.limit) := by rw [blk_cell hQ1]; rfl
  have q3 : (w.alloc (.cells x.cells.toArray 42)).cell? ⟨g, 3, none⟩ = some (.int .i64 q.since) := by rw [blk_cell hQ1]; rfl
  have hkk : ∀ j v, x.cells[j]? = some v → (w.alloc (.cells x.cells.toArray 42)).cell? ⟨w.heap.size, 0 + j, none⟩ = some v := fun j v hv => by
    rw [Nat.zero_add, blk_cell (heap_alloc_new w (.cells x.cells.toArray 42)), List.getElem?_toArray]; exact hv
  have h10 : (Try.prog.info? 42).map (·.size) = some x.cells.length := size_S
  generalize x.cells = X at h1 hkk h10 hb0 q0 q1 q2 q3 ⊢
  generalize hW : w.alloc (.cells X.toArray 42) = W1 at h1 hkk hb0 q0 q1 q2 q3
  have HKK := Lib.hid hkk
  have H10 := Lib.hid h10
  clear hkk h10 hQ hQ1 hM hT hx
  go_enter Try.func16, Try.ntmps16
  go_upto_region 1 with fail
  have HW := Lib.hid hW
  clear hW
  generalize hbb : fitsB q x = b at h1
  have HBB := Lib.hid hbb
  clear hbb
  go_wp2_with (refine wpList_load_at rfl 42 (.tmp 2) rfl w.heap.size 0 rfl X _ HKK.out Try.underlying42 rfl H10.out ?_)
  refine h1.mono ?_
  rintro e w' ⟨rfl, hb1⟩
  have hb2 := hb0.trans (hb1.mono hb0.size)
  clear h1
  go_wp2_with fail
  go_ret
  exact ⟨by rw [HBB.out]; rfl, hb2⟩

/-- The first that is to go. -/
def firstD (q : QV) (l : List SV) : Int := if l.any (fun x => !fitsB q x) then (l.findIdx (fun x => !fitsB q x) : Int) else -1

set_option maxHeartbeats 4000000 in
theorem indexS_any (g : Nat) (l : List SV) (sp : List Value) (cap : Nat) (qa : Nat) (q : QV) (p : Option Addr) (c : Nat) (w : World) (hR : RowS w g l sp) (hn : l.length ≤ 1000) (hQ : QAt w qa q p c) (hM : MaxAt w) (hT : TypesAt w p q.types) (hl : q.types.length ≤ 1000) (hq : q.term.size ≤ maxLen) (hx : ∀ x ∈ l, SmallS x) :
    Calls Try.prog 21 #[.slice (some ⟨g, 0, none⟩) l.length cap, .func (.func 16) #[] #[.pointer (some ⟨qa, 0, none⟩)]] w fun e w' =>
      (∃ i : Int, e = .returned (.int .i64 i) ∧ ((i = -1 ∧ l.all (fitsB q) = true) ∨ (∃ k : Nat, i = k ∧ k < l.length ∧ (l.take k).all (fitsB q) = true ∧ ∃ x, l[k]? = some x ∧ fitsB q x = false))) ∧ Below w.heap.size w w' := by
  have HR := Lib.hid hR
  have HQ := Lib.hid hQ
  have HM := Lib.hid hM
  have HT := Lib.hid hT
  have HX := Lib.hid hx
  have HL := Lib.hid hl
  have HQS := Lib.hid hq
  clear hR hQ hM hT hx hl hq
  go_enter Try.func21, Try.ntmps21
  go_wp2_with fail
  go_loopw [8] (fun i wq => ∃ k : Nat, k ≤ l.length ∧ i = .int .i64 k ∧ Below w.heap.size w wq ∧ Hid ((l.take k).all (fitsB q) = true)) (fun i _ => l.length - (intOf i).toNat)
  case atStart => exact ⟨0, Nat.zero_le _, rfl, Below.refl _ _, Lib.hid (by simp)⟩
  case round =>
    obtain ⟨k, hk, rfl, hb, hno⟩ := hrel
    by_cases hlt : k < l.length
    · obtain ⟨x, hx⟩ : ∃ x, l[k]? = some x := ⟨_, List.getElem?_eq_getElem hlt⟩
      have h1 := del_any qa q p c x wr (HQ.out.below hb) (HM.out.below hb) (HT.out.below hb) HL.out HQS.out (HX.out x (List.mem_of_getElem? hx))
      have hkk : ∀ j v, x.cells[j]? = some v → wr.cell? ⟨g, k * 10 + j, none⟩ = some v := fun j v hv => (HR.out.below hb).cell k x hx j v hv
      have h10 : (Try.prog.info? 42).map (·.size) = some x.cells.length := size_S
      have hsn : (l.take (k + 1)).all (fitsB q) = fitsB q x := by
        rw [List.take_add_one, hx, List.all_append, hno.out]
        simp
      have HSN := Lib.hid hsn
      have HXX := Lib.hid hx
      generalize x.cells = X at h1 hkk h10
      have HKK := Lib.hid hkk
      have H10 := Lib.hid h10
      clear hkk h10 hsn hx
      cases hf : fitsB q x
      · rw [hf] at h1
        have HF := Lib.hid hf
        clear hf
        go_wp2_with (refine wpList_load_at rfl 42 (.tmp 14) rfl g (k * 10) rfl X _ HKK.out Try.underlying42 rfl H10.out ?_)
        refine h1.mono ?_
        rintro e w' ⟨rfl, hb1⟩
        have hb2 := hb.trans (hb1.mono hb.size)
        clear h1
        go_wp2_with fail
        go_ret
        exact ⟨⟨k, rfl, .inr ⟨k, rfl, hlt, hno.out, x, HXX.out, HF.out⟩⟩, hb2⟩
      · rw [hf] at h1 HSN
        clear hf
        go_wp2_with (refine wpList_load_at rfl 42 (.tmp 14) rfl g (k * 10) rfl X _ HKK.out Try.underlying42 rfl H10.out ?_)
        refine h1.mono ?_
        rintro e w' ⟨rfl, hb1⟩
        have hb2 := hb.trans (hb1.mono hb.size)
        clear h1
        go_wp2_with fail
        go_roundw
        case rel => exact ⟨k + 1, by omega, by go_num, hb2, HSN⟩
        case measure => simp [intOf]; omega
    · have hkz : k = l.length := by omega
      subst hkz
      go_wp2_with fail
      go_ret
      exact ⟨⟨-1, rfl, .inl ⟨rfl, by have := hno.out; rwa [List.take_length] at this⟩⟩, hb⟩

end Go.Proofs.Ytmpbofmhjjgccaa
