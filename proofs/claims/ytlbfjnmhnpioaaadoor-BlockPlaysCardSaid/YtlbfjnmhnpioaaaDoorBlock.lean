/-
  A disk of 'block' in memory, and its small methods.
-/
import Derived.Test.YtlbfjnmhnpioaaaDoorRows
import Derived.WalkKit
import Derived.WalkSpells
import Derived.WalkLawsBesides
import Derived.Shelf.Abstract
import Derived.Lib.Hide
namespace Go.Proofs.YtlbfjnmhnpioaaaDoor
open Go.RowKit
set_option linter.unusedVariables false

theorem blk_cell {w : World} {g : Nat} {t : TypeId} {cs : Array Value} {fr : Nat × Nat} (h : w.heap[g]? = some (.cells cs t fr)) (i : Nat) : w.cell? ⟨g, i, none⟩ = cs[i]? := by simp [World.cell?, h]
theorem blk_frozen {w : World} {g : Nat} {t : TypeId} {cs : Array Value} (h : w.heap[g]? = some (.cells cs t (0, 0))) (i : Nat) : w.frozen? ⟨g, i, none⟩ = false := by simp [World.frozen?, h]
theorem blk_lt {w : World} {g : Nat} {o : Obj} (h : w.heap[g]? = some o) : g < w.heap.size := (Array.getElem?_eq_some_iff.1 h).1

/-- What the fuse of a disk is. -/
def FuseAt (w : World) (v : Value) (f : Option Int) : Prop :=
  match f with
  | none => v = .pointer none
  | some k => ∃ b, v = .pointer (some ⟨b, 0, none⟩) ∧ w.heap[b]? = some (.cells #[.int .i64 k] 3 (0, 0))

def bytesV (bs : List UInt8) : List Value := bs.map fun c => .int .u8 (c.toNat : Int)

/-- The write that was refused first: its block, and its bytes. -/
def CutAt (w : World) (v : Value) (c : Option (Nat × List UInt8)) : Prop :=
  match c with
  | none => v = .pointer none
  | some (n, bs) => ∃ b, v = .pointer (some ⟨b, 0, none⟩) ∧ bs.length = 64 ∧ w.heap[b]? = some (.cells (Value.int .i64 n :: bytesV bs).toArray 66 (0, 0))

/-- A disk at block g of the memory, whose bytes lie in block bb: n blocks, the bytes of all; the fuse; the cut; the steps. -/
structure DiskAt (w : World) (g bb : Nat) (fu cu : Value) (n cap : Nat) (sp : List Value) (bs : List UInt8) (f : Option Int) (c : Option (Nat × List UInt8)) (st : Int) : Prop where
  hd : w.heap[g]? = some (.cells #[.slice (some ⟨bb, 0, none⟩) n cap, fu, cu, .int .i64 st] 59 (0, 0))
  hb : w.heap[bb]? = some (.cells (bytesV bs ++ sp).toArray 64 (0, 0))
  hl : bs.length = n * 64
  hf : FuseAt w fu f
  hc : CutAt w cu c

theorem DiskAt.c0 {w : World} {g bb : Nat} {fu cu : Value} {n cap : Nat} {sp : List Value} {bs : List UInt8} {f : Option Int} {c : Option (Nat × List UInt8)} {st : Int} (h : DiskAt w g bb fu cu n cap sp bs f c st) : w.cell? ⟨g, 0, none⟩ = some (.slice (some ⟨bb, 0, none⟩) n cap) := by rw [blk_cell h.hd]; rfl
theorem DiskAt.c1 {w : World} {g bb : Nat} {fu cu : Value} {n cap : Nat} {sp : List Value} {bs : List UInt8} {f : Option Int} {c : Option (Nat × List UInt8)} {st : Int} (h : DiskAt w g bb fu cu n cap sp bs f c st) : w.cell? ⟨g, 1, none⟩ = some fu := by rw [blk_cell h.hd]; rfl
theorem DiskAt.c2 {w : World} {g bb : Nat} {fu cu : Value} {n cap : Nat} {sp : List Value} {bs : List UInt8} {f : Option Int} {c : Option (Nat × List UInt8)} {st : Int} (h : DiskAt w g bb fu cu n cap sp bs f c st) : w.cell? ⟨g, 2, none⟩ = some cu := by rw [blk_cell h.hd]; rfl
theorem DiskAt.c3 {w : World} {g bb : Nat} {fu cu : Value} {n cap : Nat} {sp : List Value} {bs : List UInt8} {f : Option Int} {c : Option (Nat × List UInt8)} {st : Int} (h : DiskAt w g bb fu cu n cap sp bs f c st) : w.cell? ⟨g, 3, none⟩ = some (.int .i64 st) := by rw [blk_cell h.hd]; rfl

theorem ret_bool {a b : Bool} (h : a = b) : Ending.returned (.bool a) = .returned (.bool b) := by rw [h]

set_option maxHeartbeats 400000 in
theorem there_any (g bb n cap : Nat) (i : Int) (w : World) (h0 : w.cell? ⟨g, 0, none⟩ = some (.slice (some ⟨bb, 0, none⟩) n cap)) :
    Calls Tryd.prog 20 #[.pointer (some ⟨g, 0, none⟩), .int .i64 i] w fun e w' => e = .returned (.bool (decide (0 ≤ i) && decide (i < n))) ∧ w = w' := by
  by_cases h : 0 ≤ i
  · rw [decide_eq_true h]
    go_enter Tryd.func20, Tryd.ntmps20
    go_wp2
    go_ret
    exact ⟨ret_bool (by simp), rfl⟩
  · rw [decide_eq_false h]
    go_enter Tryd.func20, Tryd.ntmps20
    go_wp2
    go_ret
    exact ⟨ret_bool (by simp), rfl⟩

set_option maxHeartbeats 400000 in
theorem dead_no (g : Nat) (w : World) (h2 : w.cell? ⟨g, 2, none⟩ = some (.pointer none)) :
    Calls Tryd.prog 21 #[.pointer (some ⟨g, 0, none⟩)] w fun e w' => e = .returned (.bool false) ∧ w = w' := by
  go_enter Tryd.func21, Tryd.ntmps21
  go_wp2
  go_ret
  exact ⟨rfl, rfl⟩
set_option maxHeartbeats 400000 in
theorem dead_yes (g : Nat) (a : Addr) (w : World) (h2 : w.cell? ⟨g, 2, none⟩ = some (.pointer (some a))) :
    Calls Tryd.prog 21 #[.pointer (some ⟨g, 0, none⟩)] w fun e w' => e = .returned (.bool true) ∧ w = w' := by
  go_enter Tryd.func21, Tryd.ntmps21
  go_wp2
  go_ret
  exact ⟨rfl, rfl⟩

theorem dead_any {w : World} {g bb : Nat} {fu cu : Value} {n cap : Nat} {sp : List Value} {bs : List UInt8} {f : Option Int} {c : Option (Nat × List UInt8)} {st : Int} (h : DiskAt w g bb fu cu n cap sp bs f c st) :
    Calls Tryd.prog 21 #[.pointer (some ⟨g, 0, none⟩)] w fun e w' => e = .returned (.bool c.isSome) ∧ w = w' := by
  have h2 := h.c2
  have hc := h.hc
  cases c with
  | none => rw [show cu = _ from hc] at h2; exact dead_no g w h2
  | some c => obtain ⟨b, rfl, _⟩ := hc; exact dead_yes g _ w h2

set_option maxHeartbeats 400000 in
theorem steps_any (g : Nat) (st : Int) (w : World) (h3 : w.cell? ⟨g, 3, none⟩ = some (.int .i64 st)) :
    Calls Tryd.prog 25 #[.pointer (some ⟨g, 0, none⟩)] w fun e w' => e = .returned (.int .i64 st) ∧ w = w' := by
  go_enter Tryd.func25, Tryd.ntmps25
  go_wp2
  go_ret
  exact ⟨rfl, rfl⟩

set_option maxHeartbeats 400000 in
theorem len_any (g bb n cap : Nat) (w : World) (h0 : w.cell? ⟨g, 0, none⟩ = some (.slice (some ⟨bb, 0, none⟩) n cap)) :
    Calls Tryd.prog 24 #[.pointer (some ⟨g, 0, none⟩)] w fun e w' => e = .returned (.int .i64 n) ∧ w = w' := by
  go_enter Tryd.func24, Tryd.ntmps24
  go_wp2
  go_ret
  exact ⟨rfl, rfl⟩

/-! ### New -/
def zeroCells (n : Nat) : Array Value := (bytesV (List.replicate (n * 64) 0)).toArray

theorem Tryd.infoData : (Tryd.prog.info? 64).map (fun i => (i.zero, i.size, i.bytes)) = some (some (.agg (Array.replicate 64 (.int .u8 0))), 64, 64) := by kernel_rfl

theorem made_zero (n : Nat) : madeCells (Array.replicate 64 (Value.int .u8 0)) (n * 64) = zeroCells n := by
  unfold madeCells zeroCells bytesV
  refine Array.ext (by simp) ?_
  intro i h1 h2
  have hlt : i % 64 < 64 := Nat.mod_lt _ (by omega)
  simp [hlt]

theorem make_data (n : Nat) (hn : n ≤ 4096) (w : World) :
    (Instr.makeSlice 55 (.int .i64 (n : Int)) (.int .i64 (n : Int))).run Tryd.prog w = .ok (.slice (some ⟨w.heap.size, 0, none⟩) n n) (w.alloc (.cells (zeroCells n) 64)) := by
  obtain ⟨i0, hi, hz0, hz1, hz2⟩ := info_parts Tryd.infoData
  have h := run_make (P := Tryd.prog) w 55 64 i0 (.agg (Array.replicate 64 (.int .u8 0))) Tryd.underlying55 hi hz0 .i64 .i64 n n (by omega) (by omega) (by rw [hz2]; omega) (by omega)
  rw [hz1, Int.toNat_natCast] at h
  rw [h]
  show Result.ok _ (w.alloc (.cells (madeCells (Array.replicate 64 (Value.int .u8 0)) (n * 64)) _)) = _
  rw [made_zero]

set_option maxHeartbeats 400000 in
theorem new_yes (n : Nat) (w : World) (h1 : 1 ≤ n) (hn : n ≤ 4096) :
    Calls Tryd.prog 6 #[.int .i64 n] w fun e w' => e = .returned (.tuple #[.pointer (some ⟨w.heap.size + 1, 0, none⟩), .nilIface]) ∧
      w' = (w.alloc (.cells (zeroCells n) 64)).alloc (.cells #[.slice (some ⟨w.heap.size, 0, none⟩) n n, .pointer none, .pointer none, .int .i64 0] 59) := by
  have hmk := fun w : World => make_data n hn w
  go_enter Tryd.func6, Tryd.ntmps6
  go_wp2
  go_ret2
  exact ⟨rfl, rfl⟩

set_option maxHeartbeats 400000 in
theorem new_no (n : Int) (w : World) (h : n < 1 ∨ 4096 < n) :
    Calls Tryd.prog 6 #[.int .i64 n] w fun e w' => e = .returned (.tuple #[.pointer none, .iface 54 (.int .i64 8)]) ∧ w = w' := by
  by_cases h1 : n < 1
  · clear h
    go_enter Tryd.func6, Tryd.ntmps6
    go_wp2
    go_ret2
    exact ⟨rfl, rfl⟩
  · have h2 : 4096 < n := by omega
    clear h
    go_enter Tryd.func6, Tryd.ntmps6
    go_wp2
    go_ret2
    exact ⟨rfl, rfl⟩

theorem new_disk (n : Nat) (w : World) :
    DiskAt ((w.alloc (.cells (zeroCells n) 64)).alloc (.cells #[.slice (some ⟨w.heap.size, 0, none⟩) n n, .pointer none, .pointer none, .int .i64 0] 59)) (w.heap.size + 1) w.heap.size (.pointer none) (.pointer none) n n [] (List.replicate (n * 64) 0) none none 0 where
  hd := by
    have := heap_alloc_new (w.alloc (.cells (zeroCells n) 64)) (.cells #[.slice (some ⟨w.heap.size, 0, none⟩) n n, .pointer none, .pointer none, .int .i64 0] 59)
    simpa using this
  hb := by
    rw [Below.heap_alloc _ _ _ (by simp)]
    rw [List.append_nil]
    exact heap_alloc_new _ _
  hl := by simp
  hf := rfl
  hc := rfl

end Go.Proofs.YtlbfjnmhnpioaaaDoor
