/-
  The fixed example of chapter 6.
-/
import Derived.Test.YtlbfjnmhnpioaaaDoorBlockMore
import Derived.Test.YtlbfjnmhnpioaaaDoorErrIs
import Derived.Test.YtlbfjnmhnpioaaaDoorCommon
import Derived.Lib.SlBytesConst
namespace Go.Proofs.YtlbfjnmhnpioaaaDoor
open Go.RowKit
set_option linter.unusedVariables false

/-- A slice of bytes that was just made. -/
theorem bytes_new {w : World} {b : Nat} {bs : List UInt8} {sp : List Value} {fr : Nat × Nat} (h : w.heap[b]? = some (.cells (bytesV bs ++ sp).toArray 5 fr)) : BytesAt w (some ⟨b, 0, none⟩) bs :=
  .inr ⟨⟨b, 0, none⟩, rfl, fun j v hj => by
    rw [addr_add, Nat.zero_add, blk_cell h, List.getElem?_toArray, List.getElem?_append_left (List.getElem?_eq_some_iff.1 hj).1]
    exact hj⟩

theorem bytes_lit (w : World) (bs : List UInt8) (fr : Nat × Nat) : BytesAt (w.alloc (.cells (bytesV bs).toArray 5 fr)) (some ⟨w.heap.size, 0, none⟩) bs :=
  bytes_new (sp := []) (fr := fr) (by rw [List.append_nil]; exact heap_alloc_new _ _)

def exA : List UInt8 := [97, 98, 99, 100, 101, 102]
def exB : List UInt8 := [118, 119, 120, 121, 122]
def exS0 : St := { bs := List.replicate (2 * 64) 0, f := none, c := none, st := 0 }
def exS1 : St := armS exS0 1
def exS2 : St := wrS 2 exS1 0 exA
def exS3 : St := wrS 2 exS2 0 exB
theorem exC2 : wrC 2 exS1 0 exA = 0 := by decide +kernel
theorem exC3 : wrC 2 exS2 0 exB = 19 := by decide +kernel
theorem exRead : (blockAt (crashBs exS3 3) 0).take 6 = [118, 119, 120, 100, 101, 102] := by decide +kernel
theorem exCut : ∀ k x, exS3.c = some (k, x) → k < 2 := by
  intro k x h
  have : exS3.c = some (0, fill64 exB) := by decide +kernel
  rw [this] at h
  injection h with h
  injection h with h _
  omega
theorem exOk1 : StOk exS1 := ⟨by decide +kernel, by decide +kernel, fun k h => by
  have : exS1.f = some 1 := by decide +kernel
  rw [this] at h
  injection h with h
  omega⟩
theorem exOk2 : StOk exS2 := ⟨by decide +kernel, by decide +kernel, fun k h => by
  have : exS2.f = some 0 := by decide +kernel
  rw [this] at h
  injection h with h
  omega⟩

/-- 'string(b)' of bytes that are known. -/
theorem str_of (w : World) (a : Addr) (cap : Nat) (l : List UInt8) (hc : ∀ j (hj : j < l.length), w.cell? (a.add j) = some (.int .u8 (l[j].toNat : Int))) :
    (convert 39 9 (.slice (some a) l.length cap)).run Tryd.prog w = .ok (.string ⟨l.toArray⟩) w :=
  run_convert_bytes_back w 39 9 5 a cap l Tryd.underlying39 Tryd.underlying5 Tryd.underlying9 hc

theorem str_take {w : World} {b : Nat} {bs : List UInt8} {sp : List Value} {e : TypeId} {fr : Nat × Nat} (cap : Nat) (l : List UInt8) (h : w.heap[b]? = some (.cells (bytesV bs ++ sp).toArray e fr)) (hl : bs.take l.length = l) :
    (convert 39 9 (.slice (some ⟨b, 0, none⟩) l.length cap)).run Tryd.prog w = .ok (.string ⟨l.toArray⟩) w := by
  refine str_of w ⟨b, 0, none⟩ cap l fun j hj => ?_
  have h1 : bs[j]? = some l[j] := by
    rw [← List.getElem?_eq_getElem hj]
    conv => rhs; rw [← hl]
    rw [List.getElem?_take, if_pos hj]
  rw [addr_add, Nat.zero_add, blk_cell h, List.getElem?_toArray, List.getElem?_append_left (by rw [len_bytesV]; exact (List.getElem?_eq_some_iff.1 h1).1)]
  simp [bytesV, h1]

set_option maxRecDepth 100000 in
set_option maxHeartbeats 4000000 in
theorem awake6_any (w : World) : Calls Tryd.prog 4 #[] w fun e w' => e = .returned (.bool true) ∧ Below w.heap.size w w' := by
  have h1 := mine_new 2 w (by omega) (by omega) w.heap.size w (Below.refl _ _) (Nat.le_refl _)
  have kc := fun (w : World) (C : Array Value) (n c : Nat) => Lib.run_convert_bytes_const (P := Tryd.prog) w 39 5 C n c Tryd.underlying39 Tryd.underlying5
  go_enter Tryd.func4, Tryd.ntmps4
  go_wp2_with fail
  refine h1.mono ?_
  rintro e w1 ⟨g, bb, rfl, hm1, hb1, _, _⟩
  change Mine _ _ _ _ _ _ _ exS0 at hm1
  have h2 := hm1.arm 1
  rw [show errV (armC exS0 1) = .nilIface from rfl] at h2
  clear h1
  go_wp2_with fail
  refine h2.mono ?_
  rintro e w2 ⟨rfl, ⟨fu, hm2⟩, hk2⟩
  change Mine _ _ _ _ _ _ _ exS1 at hm2
  have hA := bytes_lit w2 exA (6, 7)
  have h3 := (hm2.later ((Below.refl _ w2).alloc (Nat.le_refl _) (.cells (bytesV exA).toArray 5 (6, 7)))).write exOk1 (by omega) 0 (some ⟨w2.heap.size, 0, none⟩) exA 6 (fun _ => hA)
  rw [exC2, show errV 0 = .nilIface from rfl] at h3
  clear h2 hA
  go_wp2_with fail
  refine h3.mono ?_
  rintro e w3 ⟨rfl, hm3, hk3⟩
  change Mine _ _ _ _ _ _ _ exS2 at hm3
  have hA := bytes_lit w3 exB (5, 6)
  have h4 := (hm3.later ((Below.refl _ w3).alloc (Nat.le_refl _) (.cells (bytesV exB).toArray 5 (5, 6)))).write exOk2 (by omega) 0 (some ⟨w3.heap.size, 0, none⟩) exB 5 (fun _ => hA)
  rw [exC3, show errV 19 = .iface 54 (.int .i64 19) from rfl] at h4
  clear h3 hA
  go_wp2_with fail
  refine h4.mono ?_
  rintro e w4 ⟨rfl, hm4, hk4⟩
  change Mine _ _ _ _ _ _ _ exS3 at hm4
  have h5 := errors_Is_codes 19 19
  clear h4
  go_wp2_with fail
  refine (h5 _).mono ?_
  rintro e w5 ⟨rfl, rfl⟩
  have h6 := hm4.crash (by omega) (by omega) exCut 3
  clear h5
  go_wp2_with fail
  refine h6.mono ?_
  rintro e w6 ⟨g', bb', rfl, hm6, _, _, _⟩
  have h7 := read_any hm6.disk 0 (by omega)
  clear h6
  go_wp2_with fail
  refine h7.mono ?_
  rintro e w7 ⟨b, cap, sp, rfl, hb7, hcap, hx7, hB7⟩
  have hs7 : (convert 39 9 (.slice (some ⟨b, 0, none⟩) 6 cap)).run Tryd.prog w7 = .ok (.string ⟨#[118, 119, 120, 100, 101, 102]⟩) w7 := str_take cap [118, 119, 120, 100, 101, 102] hx7 exRead
  go_wp2_with fail
  go_ret
  refine ⟨rfl, ?_⟩
  exact (hm6.later hB7).below

end Go.Proofs.YtlbfjnmhnpioaaaDoor
