/-
  Blocks as texts.
-/
import Derived.Test.YtlbfjnmhnpioaaaDoorZeros
namespace Go.Proofs.YtlbfjnmhnpioaaaDoor
open Go.RowKit
set_option maxRecDepth 100000
set_option linter.unusedVariables false
set_option linter.unusedSimpArgs false

/-- A block as a text. -/
def txt (bs : List UInt8) (i : Nat) : ByteArray := ⟨(blockAt bs i).toArray⟩
/-- What was read of the first j blocks. -/
def wasA (bs : List UInt8) (j : Nat) : Array Value := ((List.range 8).map fun i => if i < j then Value.string (txt bs i) else .string ByteArray.empty).toArray
theorem wasA_get (bs : List UInt8) (j i : Nat) (hi : i < 8) : (wasA bs j)[i]? = some (if i < j then Value.string (txt bs i) else .string ByteArray.empty) := by
  simp [wasA, hi]
theorem wasA_set (bs : List UInt8) (j : Nat) : (wasA bs j).setIfInBounds j (.string (txt bs j)) = wasA bs (j + 1) := by
  refine Array.ext_getElem? fun i => ?_
  rw [Array.getElem?_setIfInBounds]
  by_cases hi : i < 8
  · rw [wasA_get _ _ _ hi, wasA_get _ _ _ hi]
    by_cases h : j = i
    · subst h; simp [wasA, hi]
    · rw [if_neg h]
      by_cases h3 : i < j
      · rw [if_pos h3, if_pos (by omega)]
      · rw [if_neg h3, if_neg (by omega)]
  · have h1 : (wasA bs j)[i]? = none := by simp [wasA]; omega
    have h2 : (wasA bs (j + 1))[i]? = none := by simp [wasA]; omega
    rw [h1, h2]
    by_cases h : j = i
    · subst h; simp [wasA, hi]
    · rw [if_neg h]

theorem Mine.blen {B : Nat} {w0 w : World} {g bb : Nat} {fu : Value} {n : Nat} {s : St} (h : Mine B w0 w g bb fu n s) : s.bs.length = n * 64 := by
  obtain ⟨_, _, _, hd⟩ := h.disk
  exact hd.hl

theorem Disk.off {w : World} {g bb : Nat} {fu : Value} {n : Nat} {s : St} (h : Disk w g bb fu n s) {k : Nat} {cs : Array Value} {t : TypeId} (hk : w.heap[k]? = some (.cells cs t (0, 0)))
    (ht : t ≠ 59 ∧ t ≠ 64 ∧ t ≠ 3) : ¬ footD g bb fu k := by
  obtain ⟨cu, cap, sp, h⟩ := h
  obtain ⟨h1, h2, h3⟩ := ht
  rintro (rfl | rfl | rfl)
  · exact types_ne hk h.hd h1 rfl
  · exact types_ne hk h.hb h2 rfl
  · have hf := h.hf
    cases hs : s.f with
    | none => rw [hs] at hf; cases hf
    | some q =>
      rw [hs] at hf
      obtain ⟨b, hb, hh⟩ := hf
      injection hb with hb; injection hb with hb; injection hb with hb _ _
      subst hb
      exact types_ne hk hh h3 rfl

theorem k_of (n : Int) : ∃ k : Nat, k < 8 ∧ wrap64 ((IntKind.u64.wrap n).tmod 8) = (k : Int) := by
  have h : 0 ≤ IntKind.u64.wrap n := by
    have : IntKind.u64.wrap n = n % 18446744073709551616 := by
      simp [IntKind.wrap, IntKind.signed, IntKind.bits]
    rw [this]
    omega
  refine ⟨((IntKind.u64.wrap n).tmod 8).toNat, ?_, ?_⟩
  · rw [Int.tmod_eq_emod_of_nonneg h]; omega
  · rw [Int.tmod_eq_emod_of_nonneg h]
    unfold wrap64
    omega

theorem str_block {w : World} {b : Nat} {bs : List UInt8} {sp : List Value} {e : TypeId} {fr : Nat × Nat} (cap i : Nat) (hl : (blockAt bs i).length = 64) (h : w.heap[b]? = some (.cells (bytesV (blockAt bs i) ++ sp).toArray e fr)) :
    (convert 39 9 (.slice (some ⟨b, 0, none⟩) 64 cap)).run Tryd.prog w = .ok (.string (txt bs i)) w := by
  have := str_take (w := w) cap (blockAt bs i) h (by rw [List.take_length])
  rw [hl] at this
  exact this
theorem str_fill {w : World} {b : Nat} {x : List UInt8} {sp : List Value} {e : TypeId} {fr : Nat × Nat} (cap : Nat) (hl : x.length = 64) (h : w.heap[b]? = some (.cells (bytesV x ++ sp).toArray e fr)) :
    (convert 39 9 (.slice (some ⟨b, 0, none⟩) 64 cap)).run Tryd.prog w = .ok (.string ⟨x.toArray⟩) w := by
  have := str_take (w := w) cap x h (by rw [List.take_length])
  rw [hl] at this
  exact this

end Go.Proofs.YtlbfjnmhnpioaaaDoor
