/-
  The document's lists of bytes are the program's tests of bytes.
-/
import Derived.Test.YtmohbbmokcnbhaaDoorIdent
namespace Go.Proofs.YtmohbbmokcnbhaaDoor
open Go.RowKit
set_option maxRecDepth 100000
set_option linter.unusedVariables false
set_option linter.unusedSimpArgs false

def inB (l : List UInt8) (c : UInt8) : Bool := l.any (fun x => x == c)
def allR (l : List UInt8) (least most : Int) (cs : List UInt8) : Bool := decide (least ≤ (l.length : Int)) && decide ((l.length : Int) ≤ most) && l.all (inB cs)
theorem byte_all (p q : UInt8 → Bool) (h : (List.range 256).all (fun n => p (UInt8.ofNat n) == q (UInt8.ofNat n)) = true) : p = q := by
  funext c
  have := List.all_eq_true.1 h c.toNat (List.mem_range.2 (UInt8.toNat_lt c))
  rw [UInt8.ofNat_toNat] at this
  exact beq_iff_eq.1 this
def csHost : ByteArray := ⟨#[97, 98, 99, 100, 101, 102, 103, 104, 105, 106, 107, 108, 109, 110, 111, 112, 113, 114, 115, 116, 117, 118, 119, 120, 121, 122, 48, 49, 50, 51, 52, 53, 54, 55, 56, 57, 46, 45]⟩
theorem csHost_is : inB csHost.data.toList = withB [46, 45] plainB := byte_all _ _ (by decide +kernel)
def csUser : ByteArray := ⟨#[97, 98, 99, 100, 101, 102, 103, 104, 105, 106, 107, 108, 109, 110, 111, 112, 113, 114, 115, 116, 117, 118, 119, 120, 121, 122, 48, 49, 50, 51, 52, 53, 54, 55, 56, 57, 46, 95, 61, 45, 47]⟩
theorem csUser_is : inB csUser.data.toList = withB [46, 95, 61, 45, 47] plainB := byte_all _ _ (by decide +kernel)
def csRoom : ByteArray := ⟨#[97, 98, 99, 100, 101, 102, 103, 104, 105, 106, 107, 108, 109, 110, 111, 112, 113, 114, 115, 116, 117, 118, 119, 120, 121, 122, 48, 49, 50, 51, 52, 53, 54, 55, 56, 57, 65, 66, 67, 68, 69, 70, 71, 72, 73, 74, 75, 76, 77, 78, 79, 80, 81, 82, 83, 84, 85, 86, 87, 88, 89, 90, 95, 45, 46]⟩
theorem csRoom_is : inB csRoom.data.toList = opaqueB := byte_all _ _ (by decide +kernel)
def csDigit : ByteArray := ⟨#[48, 49, 50, 51, 52, 53, 54, 55, 56, 57]⟩
theorem csDigit_is : inB csDigit.data.toList = digitB := byte_all _ _ (by decide +kernel)
def csHex : ByteArray := ⟨#[48, 49, 50, 51, 52, 53, 54, 55, 56, 57, 97, 98, 99, 100, 101, 102]⟩
theorem csHex_is : inB csHex.data.toList = hexB := byte_all _ _ (by decide +kernel)

theorem allR_is (l : List UInt8) (most : Int) (cs : ByteArray) (p : UInt8 → Bool) (h : inB cs.data.toList = p) : allR l 1 most cs.data.toList = allB l most p := by
  unfold allR allB
  rw [h]
  cases l with
  | nil => simp
  | cons a r =>
    have h1 : decide ((1 : Int) ≤ ((a :: r).length : Int)) = true := by simp; omega
    have h2 : (a :: r).isEmpty = false := rfl
    rw [h1, h2, Bool.true_and, Bool.not_false, Bool.and_true, Bool.and_comm]

end Go.Proofs.YtmohbbmokcnbhaaDoor
