/-
  (*Disk).Write: what a write does with a disk in memory.
-/
import Derived.Test.YtlbfjnmhnpioaaaDoorBlock
import Derived.Test.YtlbfjnmhnpioaaaDoorSeg
import Derived.Deep.Cut
import Derived.Deep.QuietTactic
import Derived.BigQuiet
namespace Go.Proofs.YtlbfjnmhnpioaaaDoor
open Go.RowKit
set_option linter.unusedVariables false

def zero64 : List UInt8 := List.replicate 64 0
theorem len_zero64 : zero64.length = 64 := by simp [zero64]
def writeCells (i : Nat) (bs : List UInt8) : List Value := .int .i64 i :: bytesV bs

theorem built_write (i : Nat) : Tryd.prog.built 66 [(0, .int .i64 i)] = some (writeCells i zero64).toArray := by kernel_rfl
theorem size_write : (Tryd.prog.info? 66).map (·.size) = some 65 := by kernel_rfl
theorem size_data : (Tryd.prog.info? 64).map (·.size) = some 64 := by kernel_rfl
theorem size_byte : (Tryd.prog.info? 5).map (·.size) = some 1 := by kernel_rfl
theorem len_bytesV (bs : List UInt8) : (bytesV bs).length = bs.length := by simp [bytesV]
theorem one_bytesV (bs : List UInt8) : ∀ v ∈ bytesV bs, v.oneCell' = true := by
  intro v hv
  simp only [bytesV, List.mem_map] at hv
  obtain ⟨c, _, rfl⟩ := hv
  rfl

theorem blk_set {w : World} {g : Nat} {t : TypeId} {cs : Array Value} (h : w.heap[g]? = some (.cells cs t (0, 0))) (i : Nat) (u : Value) : (w.setCell ⟨g, i, none⟩ u).heap[g]? = some (.cells (cs.setIfInBounds i u) t (0, 0)) := by
  simp [World.setCell, Array.getElem?_modify, h]

theorem FuseAt.below {w w' : World} {v : Value} {f : Option Int} (h : FuseAt w v f) (hb : Below w.heap.size w w') : FuseAt w' v f := by
  cases f with
  | none => exact h
  | some k => obtain ⟨b, e, hk⟩ := h; exact ⟨b, e, (hb.block b (blk_lt hk)).trans hk⟩
theorem CutAt.below {w w' : World} {v : Value} {c : Option (Nat × List UInt8)} (h : CutAt w v c) (hb : Below w.heap.size w w') : CutAt w' v c := by
  cases c with
  | none => exact h
  | some c => obtain ⟨b, e, hl, hk⟩ := h; exact ⟨b, e, hl, (hb.block b (blk_lt hk)).trans hk⟩
theorem DiskAt.below {w w' : World} {g bb : Nat} {fu cu : Value} {n cap : Nat} {sp : List Value} {bs : List UInt8} {f : Option Int} {c : Option (Nat × List UInt8)} {st : Int} (h : DiskAt w g bb fu cu n cap sp bs f c st) (hb : Below w.heap.size w w') : DiskAt w' g bb fu cu n cap sp bs f c st :=
  ⟨(hb.block g (blk_lt h.hd)).trans h.hd, (hb.block bb (blk_lt h.hb)).trans h.hb, h.hl, h.hf.below hb, h.hc.below hb⟩

/-- A slice of bytes, as it is read. -/
def BytesAt (w : World) (A : Option Addr) (bs : List UInt8) : Prop := bs = [] ∨ ∃ ad, A = some ad ∧ ∀ j v, (bytesV bs)[j]? = some v → w.cell? (ad.add j) = some v

theorem BytesAt.below {w w' : World} {A : Option Addr} {bs : List UInt8} (h : BytesAt w A bs) (hb : Below w.heap.size w w') : BytesAt w' A bs := by
  rcases h with h | ⟨ad, e, h⟩
  · exact .inl h
  · refine .inr ⟨ad, e, fun j v hj => ?_⟩
    have hc := h j v hj
    exact (hb.cell (World.block_lt_of_cell? w _ hc)).trans hc

/-- These bytes, and noughts behind. -/
def fill64 (b : List UInt8) : List UInt8 := b ++ List.replicate (64 - b.length) 0
theorem len_fill64 (b : List UInt8) (h : b.length ≤ 64) : (fill64 b).length = 64 := by simp [fill64]; omega

/-- The blocks' bytes behind a write. -/
def layAt (bs : List UInt8) (i : Nat) (x : List UInt8) : List UInt8 := bs.take (i * 64) ++ x ++ bs.drop (i * 64 + x.length)
theorem len_layAt (bs : List UInt8) (i n : Nat) (x : List UInt8) (hb : bs.length = n * 64) (hi : i < n) (hx : x.length = 64) : (layAt bs i x).length = n * 64 := by
  have : i * 64 + 64 ≤ n * 64 := by omega
  simp [layAt, hx, hb]; omega

theorem drop_zeros (n k : Nat) : (bytesV (List.replicate n 0)).drop k = bytesV (List.replicate (n - k) 0) := by simp only [bytesV, List.map_replicate, List.drop_replicate]
theorem len_writeCells (i : Nat) (bs : List UInt8) : (writeCells i bs).length = bs.length + 1 := by simp [writeCells, len_bytesV]
theorem splice_write (i : Nat) (b : List UInt8) : splice (writeCells i zero64) 1 (bytesV b) = writeCells i (fill64 b) := by
  unfold splice writeCells fill64
  have e : bytesV (b ++ List.replicate (64 - b.length) 0) = bytesV b ++ bytesV (List.replicate (64 - b.length) 0) := by simp [bytesV]
  have e2 : (bytesV zero64).drop b.length = _ := drop_zeros 64 b.length
  rw [e, len_bytesV, Nat.add_comm 1 b.length, List.drop_succ_cons, e2]
  rfl

/-- What the first stretch of a write leaves: a new box with the block's number and its bytes. -/
structure Boxed (w w' : World) (i : Nat) (b : List UInt8) : Prop where
  below : Below w.heap.size w w'
  box : w'.heap[w.heap.size]? = some (.cells (writeCells i (fill64 b)).toArray 66 (0, 0))

theorem bytesV_lay (bs : List UInt8) (i : Nat) (x : List UInt8) : bytesV (layAt bs i x) = (bytesV bs).take (i * 64) ++ bytesV x ++ (bytesV bs).drop (i * 64 + (bytesV x).length) := by
  simp [bytesV, layAt]
theorem lay_spare (bs : List UInt8) (i n : Nat) (b : List UInt8) (sp : List Value) (hl : Hid (bs.length = n * 64)) (hb : b.length ≤ 64) (hi : i < n) :
    bytesV (layAt bs i (fill64 b)) ++ sp = (bytesV bs ++ sp).take (i * 64) ++ bytesV (fill64 b) ++ (bytesV bs ++ sp).drop (i * 64 + (bytesV (fill64 b)).length) := by
  have h1 : i * 64 + 64 ≤ n * 64 := by omega
  have h2 := hl.out
  have h3 := len_fill64 b hb
  rw [bytesV_lay, len_bytesV, h3, List.take_append_of_le_length (by rw [len_bytesV]; omega), List.drop_append_of_le_length (by rw [len_bytesV]; omega)]
  simp
theorem splice_of_take (l : List Value) (o : Nat) (x : List Value) : splice l o x = l.take o ++ (x ++ l.drop (o + x.length)) := rfl

set_option maxRecDepth 100000 in
set_option maxHeartbeats 2000000 in
/-- A disk without a fuse, that isn't dead. -/
theorem write_free (g bb n cap : Nat) (sp : List Value) (bs : List UInt8) (st : Int) (i : Nat) (A : Option Addr) (b : List UInt8) (c : Nat) (w : World) (hd : DiskAt w g bb (.pointer none) (.pointer none) n cap sp bs none none st)
    (h1 : i < n) (_hn : n ≤ 4096) (hm : b.length ≤ 64) (hr : BytesAt w A b) (hs0 : 0 ≤ st) (hs1 : st < 1000000) :
    Calls Tryd.prog 9 #[.pointer (some ⟨g, 0, none⟩), .int .i64 i, .slice A b.length c] w fun e w' => e = .returned .nilIface ∧
      ∃ w1, Boxed w w1 i b ∧ w' = ((w1.setCell ⟨g, 3, none⟩ (.int .i64 (st + 1))).drew).setRow bb (bytesV (layAt bs i (fill64 b)) ++ sp).toArray := by
  have hcu := there_any g bb n cap i w hd.c0
  rw [decide_eq_true (by omega : (0 : Int) ≤ i), decide_eq_true (by omega : (i : Int) < n)] at hcu
  have hdd := dead_no g w hd.c2
  have hbu := built_write i
  have hz : ∀ w : World, (zeroValue 66).run Tryd.prog w = .ok (.agg (writeCells 0 zero64).toArray) w := fun _ => by kernel_rfl
  have hs0 : (writeCells 0 zero64).toArray.size = 65 := by simp [writeCells, len_bytesV, len_zero64]
  have hsi : (writeCells i zero64).toArray.size = 65 := by simp [writeCells, len_bytesV, len_zero64]
  have ho1 : (writeCells i zero64).toArray.all (·.oneCell') = true := by
    simp [writeCells, bytesV, zero64]; exact ⟨rfl, rfl⟩
  generalize (writeCells 0 zero64).toArray = z0 at hz hs0
  generalize hzi : (writeCells i zero64).toArray = zi at hbu hsi ho1
  have HZ := Lib.hid hzi
  have HB := Lib.hid hbu
  have HS0 := Lib.hid hs0
  have HSi := Lib.hid hsi
  have HO1 := Lib.hid ho1
  have hm2 : ¬ (64 : Int) < (b.length : Int) := by omega
  clear hbu hs0 hsi ho1 hzi
  go_enter Tryd.func9, Tryd.ntmps9
  go_upto_region 8 with (first | (go_at_call 20; refine hcu.mono ?_; rintro e w' ⟨rfl, rfl⟩) | (go_at_call 21; refine hdd.mono ?_; rintro e w' ⟨rfl, rfl⟩) | (refine wpList_build_eq rfl 66 #[(0, .tmp 23)] rfl [(0, .int .i64 i)] rfl zi HB.out ?_) | (refine wpList_store_row rfl 66 (.tmp 7) (.tmp 24) rfl w.heap.size zi rfl rfl 66 z0 (heap_alloc_new _ _) (by rw [HSi.out]; exact size_write) (by rw [HS0.out, HSi.out]) HO1.out ?_))
  have hB1 : Below w.heap.size w ((w.alloc (.cells z0 66)).setRow w.heap.size zi) := below_setRow ((Below.refl _ w).alloc (Nat.le_refl _) _) (Nat.le_refl _) _
  have hX1 : ((w.alloc (.cells z0 66)).setRow w.heap.size zi).heap[w.heap.size]? = some (.cells (writeCells i zero64).toArray 66 (0, 0)) := by
    rw [HZ.out]; exact setRow_heap _ _ _ _ _ _ (heap_alloc_new _ _)
  generalize ((w.alloc (.cells z0 66)).setRow w.heap.size zi) = w1 at hB1 hX1 ⊢
  have HX1 := Lib.hid hX1
  have HR := Lib.hid (hr.below hB1)
  have HD := Lib.hid hd
  clear hX1 hr hd hz
  go_wp2_with (refine wpList_copy_splice rfl (.tmp 26) (.tmp 27) 39 39 rfl 5 Tryd.underlying39 size_byte (some ⟨w.heap.size, 1, none⟩) A 64 64 b.length c rfl rfl w.heap.size 1 (writeCells i zero64) 66 HX1.out (bytesV b) ?hn ?hp ?hf (one_bytesV b) w.heap.size w hB1 (Nat.le_refl _) ?hk)
  case hn => rw [len_bytesV]; show _ = min _ _; omega
  case hf => rw [len_bytesV, len_writeCells, len_zero64]; omega
  case hp =>
    intro h0
    rcases HR.out with h | h
    · rw [h] at h0; exact absurd h0 (by simp [bytesV])
    · obtain ⟨ad, e, h⟩ := h; exact ⟨ad, e, h⟩
  case hk =>
    rw [splice_write i b]
    intro w2 hx2 hB2
    have hbox : Boxed w w2 i b := ⟨hB2, hx2.out⟩
    have hd2 := HD.out.below hB2
    have e0 := hd2.c0
    have e1 := hd2.c1
    have e3 := hd2.c3
    have f3 := blk_frozen hd2.hd 3
    clear HR HX1 hB1 hcu hdd hx2
    have hgl := blk_lt HD.out.hd
    have hbl := blk_lt HD.out.hb
    have hne : g ≠ bb := by
      intro e
      have h1 := HD.out.hd
      rw [e, HD.out.hb] at h1
      injection h1 with h1
      injection h1 with _ h2
      exact absurd h2 (by decide)
    have hq0 : (w2.setCell ⟨g, 3, none⟩ (.int .i64 (st + 1))).cell? ⟨g, 0, none⟩ = some (.slice (some ⟨bb, 0, none⟩) n cap) := by
      rw [blk_cell (blk_set hd2.hd 3 _)]; rfl
    have hqb : (w2.setCell ⟨g, 3, none⟩ (.int .i64 (st + 1))).heap[bb]? = some (.cells (bytesV bs ++ sp).toArray 64 (0, 0)) := by
      rw [Below.heap_setCell _ _ _ _ (by simpa using hne.symm)]; exact hd2.hb
    have hqx : ∀ j v, (bytesV (fill64 b))[j]? = some v → (w2.setCell ⟨g, 3, none⟩ (.int .i64 (st + 1))).cell? ⟨w.heap.size, 1 + j, none⟩ = some v := by
      intro j v hj
      rw [World.cell?_of_block (w := w2) (Below.heap_setCell _ _ _ _ (by show w.heap.size ≠ g; omega)), blk_cell hbox.box]
      simp only [writeCells, List.getElem?_toArray, Nat.add_comm 1 j, List.getElem?_cons_succ]
      exact hj
    have HQB := Lib.hid hqb
    have HQX := Lib.hid hqx
    have HBOX := Lib.hid hbox
    have HD2 := Lib.hid hd2
    clear hqb hqx hbox hd2
    go_wp2
    generalize hw3 : w2.setCell ⟨g, 3, none⟩ (.int .i64 (st + 1)) = w3 at hq0 HQB HQX ⊢
    have HW3 := Lib.hid hw3
    clear hw3
    have hlf : (bytesV (fill64 b)).length = 64 := by rw [len_bytesV, len_fill64 b hm]
    have HLF := Lib.hid hlf
    have hlb : (bytesV bs).length = n * 64 := by rw [len_bytesV, HD2.out.hl]
    have HLB := Lib.hid hlb
    have HLB2 := Lib.hid HD2.out.hl
    clear hlf hlb
    refine wp_region_still_tail 8 (by kernel_rfl) (by kernel_rfl) ?_
    simp only [List.take_succ_cons, List.take_zero, List.drop_succ_cons, List.drop_zero]
    change wpStill _ _ w3.drew _ _ _
    iterate 6 still_step
    refine wpStill_load_at rfl 64 (.tmp 65) rfl w.heap.size 1 rfl (bytesV (fill64 b)) _ HQX.out Tryd.underlying64 rfl (by rw [HLF.out]; exact size_data) ?_
    still_step
    refine wpStill_nil ?_
    change wpList _ _ _ _ _ w3.drew
    refine wpList_store_at rfl 64 (.tmp 67) (.tmp 66) rfl bb (i * 64) (bytesV (fill64 b)) rfl rfl 64 (bytesV bs ++ sp) HQB.out (by rw [HLF.out]; exact size_data) (by rw [HLF.out, List.length_append, HLB.out]; omega) (one_bytesV _) ?_
    go_wp2
    go_ret
    refine ⟨rfl, w2, HBOX.out, ?_⟩
    rw [HW3.out, lay_spare bs i n _ sp HLB2 hm h1, List.append_assoc]

set_option maxRecDepth 100000 in
set_option maxHeartbeats 2000000 in
/-- A disk with a fuse that has steps left. -/
theorem write_fused (g bb bf n cap : Nat) (sp : List Value) (bs : List UInt8) (st k : Int) (i : Nat) (A : Option Addr) (b : List UInt8) (c : Nat) (w : World) (hd : DiskAt w g bb (.pointer (some ⟨bf, 0, none⟩)) (.pointer none) n cap sp bs (some k) none st)
    (hk0 : 0 < k) (hk1 : k < 9223372036854775808)
    (h1 : i < n) (_hn : n ≤ 4096) (hm : b.length ≤ 64) (hr : BytesAt w A b) (hs0 : 0 ≤ st) (hs1 : st < 1000000) :
    Calls Tryd.prog 9 #[.pointer (some ⟨g, 0, none⟩), .int .i64 i, .slice A b.length c] w fun e w' => e = .returned .nilIface ∧
      ∃ w1, Boxed w w1 i b ∧ w' = (((w1.setCell ⟨bf, 0, none⟩ (.int .i64 (k - 1))).setCell ⟨g, 3, none⟩ (.int .i64 (st + 1))).drew).setRow bb (bytesV (layAt bs i (fill64 b)) ++ sp).toArray := by
  have hcu := there_any g bb n cap i w hd.c0
  rw [decide_eq_true (by omega : (0 : Int) ≤ i), decide_eq_true (by omega : (i : Int) < n)] at hcu
  have hdd := dead_no g w hd.c2
  have hbu := built_write i
  have hz : ∀ w : World, (zeroValue 66).run Tryd.prog w = .ok (.agg (writeCells 0 zero64).toArray) w := fun _ => by kernel_rfl
  have hs0 : (writeCells 0 zero64).toArray.size = 65 := by simp [writeCells, len_bytesV, len_zero64]
  have hsi : (writeCells i zero64).toArray.size = 65 := by simp [writeCells, len_bytesV, len_zero64]
  have ho1 : (writeCells i zero64).toArray.all (·.oneCell') = true := by
    simp [writeCells, bytesV, zero64]; exact ⟨rfl, rfl⟩
  generalize (writeCells 0 zero64).toArray = z0 at hz hs0
  generalize hzi : (writeCells i zero64).toArray = zi at hbu hsi ho1
  have HZ := Lib.hid hzi
  have HB := Lib.hid hbu
  have HS0 := Lib.hid hs0
  have HSi := Lib.hid hsi
  have HO1 := Lib.hid ho1
  have hm2 : ¬ (64 : Int) < (b.length : Int) := by omega
  clear hbu hs0 hsi ho1 hzi
  go_enter Tryd.func9, Tryd.ntmps9
  go_upto_region 8 with (first | (go_at_call 20; refine hcu.mono ?_; rintro e w' ⟨rfl, rfl⟩) | (go_at_call 21; refine hdd.mono ?_; rintro e w' ⟨rfl, rfl⟩) | (refine wpList_build_eq rfl 66 #[(0, .tmp 23)] rfl [(0, .int .i64 i)] rfl zi HB.out ?_) | (refine wpList_store_row rfl 66 (.tmp 7) (.tmp 24) rfl w.heap.size zi rfl rfl 66 z0 (heap_alloc_new _ _) (by rw [HSi.out]; exact size_write) (by rw [HS0.out, HSi.out]) HO1.out ?_))
  have hB1 : Below w.heap.size w ((w.alloc (.cells z0 66)).setRow w.heap.size zi) := below_setRow ((Below.refl _ w).alloc (Nat.le_refl _) _) (Nat.le_refl _) _
  have hX1 : ((w.alloc (.cells z0 66)).setRow w.heap.size zi).heap[w.heap.size]? = some (.cells (writeCells i zero64).toArray 66 (0, 0)) := by
    rw [HZ.out]; exact setRow_heap _ _ _ _ _ _ (heap_alloc_new _ _)
  generalize ((w.alloc (.cells z0 66)).setRow w.heap.size zi) = w1 at hB1 hX1 ⊢
  have HX1 := Lib.hid hX1
  have HR := Lib.hid (hr.below hB1)
  have HD := Lib.hid hd
  clear hX1 hr hd hz
  go_wp2_with (refine wpList_copy_splice rfl (.tmp 26) (.tmp 27) 39 39 rfl 5 Tryd.underlying39 size_byte (some ⟨w.heap.size, 1, none⟩) A 64 64 b.length c rfl rfl w.heap.size 1 (writeCells i zero64) 66 HX1.out (bytesV b) ?hn ?hp ?hf (one_bytesV b) w.heap.size w hB1 (Nat.le_refl _) ?hk)
  case hn => rw [len_bytesV]; show _ = min _ _; omega
  case hf => rw [len_bytesV, len_writeCells, len_zero64]; omega
  case hp =>
    intro h0
    rcases HR.out with h | h
    · rw [h] at h0; exact absurd h0 (by simp [bytesV])
    · obtain ⟨ad, e, h⟩ := h; exact ⟨ad, e, h⟩
  case hk =>
    rw [splice_write i b]
    intro w2 hx2 hB2
    have hbox : Boxed w w2 i b := ⟨hB2, hx2.out⟩
    have hd2 := HD.out.below hB2
    have e0 := hd2.c0
    have e1 := hd2.c1
    have e3 := hd2.c3
    have f3 := blk_frozen hd2.hd 3
    obtain ⟨bf', ebf, hbf⟩ := hd2.hf
    injection ebf with ebf
    injection ebf with ebf
    injection ebf with ebf _ _
    subst ebf
    have ek : w2.cell? ⟨bf, 0, none⟩ = some (.int .i64 k) := by rw [blk_cell hbf]; rfl
    have fk := blk_frozen hbf 0
    have hk2 : (k == 0) = false := by rw [beq_eq_false_iff_ne]; omega
    have hngf : g ≠ bf := by
      intro e
      have h1 := hd2.hd
      rw [e, hbf] at h1
      injection h1 with h1
      injection h1 with _ h2
      exact absurd h2 (by decide)
    have hnbf : bb ≠ bf := by
      intro e
      have h1 := hd2.hb
      rw [e, hbf] at h1
      injection h1 with h1
      injection h1 with _ h2
      exact absurd h2 (by decide)
    have hd5 : (w2.setCell ⟨bf, 0, none⟩ (.int .i64 (k - 1))).heap[g]? = some (.cells #[.slice (some ⟨bb, 0, none⟩) n cap, .pointer (some ⟨bf, 0, none⟩), .pointer none, .int .i64 st] 59 (0, 0)) := by
      rw [Below.heap_setCell _ _ _ _ hngf]; exact hd2.hd
    have e35 : (w2.setCell ⟨bf, 0, none⟩ (.int .i64 (k - 1))).cell? ⟨g, 3, none⟩ = some (.int .i64 st) := by rw [blk_cell hd5]; rfl
    have f35 := blk_frozen hd5 3
    have hblf := blk_lt (show w.heap[bf]? = some _ from by have h6 := HD.out.hf; obtain ⟨b7, e7, h7⟩ := h6; injection e7 with e7; injection e7 with e7; injection e7 with e7 _ _; subst e7; exact h7)
    clear HR HX1 hB1 hcu hdd hx2
    have hgl := blk_lt HD.out.hd
    have hbl := blk_lt HD.out.hb
    have hne : g ≠ bb := by
      intro e
      have h1 := HD.out.hd
      rw [e, HD.out.hb] at h1
      injection h1 with h1
      injection h1 with _ h2
      exact absurd h2 (by decide)
    have hq0 : ((w2.setCell ⟨bf, 0, none⟩ (.int .i64 (k - 1))).setCell ⟨g, 3, none⟩ (.int .i64 (st + 1))).cell? ⟨g, 0, none⟩ = some (.slice (some ⟨bb, 0, none⟩) n cap) := by
      rw [blk_cell (blk_set hd5 3 _)]; rfl
    have hqb : ((w2.setCell ⟨bf, 0, none⟩ (.int .i64 (k - 1))).setCell ⟨g, 3, none⟩ (.int .i64 (st + 1))).heap[bb]? = some (.cells (bytesV bs ++ sp).toArray 64 (0, 0)) := by
      rw [Below.heap_setCell _ _ _ _ (by simpa using hne.symm), Below.heap_setCell _ _ _ _ hnbf]; exact hd2.hb
    have hqx : ∀ j v, (bytesV (fill64 b))[j]? = some v → ((w2.setCell ⟨bf, 0, none⟩ (.int .i64 (k - 1))).setCell ⟨g, 3, none⟩ (.int .i64 (st + 1))).cell? ⟨w.heap.size, 1 + j, none⟩ = some v := by
      intro j v hj
      rw [World.cell?_of_block (w := w2) ((Below.heap_setCell _ _ _ _ (by show w.heap.size ≠ g; omega)).trans (Below.heap_setCell _ _ _ _ (by show w.heap.size ≠ bf; omega))), blk_cell hbox.box]
      simp only [writeCells, List.getElem?_toArray, Nat.add_comm 1 j, List.getElem?_cons_succ]
      exact hj
    have HQB := Lib.hid hqb
    have HQX := Lib.hid hqx
    have HBOX := Lib.hid hbox
    have HD2 := Lib.hid hd2
    clear hqb hqx hbox hd2 hbf hd5
    go_wp2
    generalize hw3 : (w2.setCell ⟨bf, 0, none⟩ (.int .i64 (k - 1))).setCell ⟨g, 3, none⟩ (.int .i64 (st + 1)) = w3 at hq0 HQB HQX ⊢
    have HW3 := Lib.hid hw3
    clear hw3
    have hlf : (bytesV (fill64 b)).length = 64 := by rw [len_bytesV, len_fill64 b hm]
    have HLF := Lib.hid hlf
    have hlb : (bytesV bs).length = n * 64 := by rw [len_bytesV, HD2.out.hl]
    have HLB := Lib.hid hlb
    have HLB2 := Lib.hid HD2.out.hl
    clear hlf hlb
    refine wp_region_still_tail 8 (by kernel_rfl) (by kernel_rfl) ?_
    simp only [List.take_succ_cons, List.take_zero, List.drop_succ_cons, List.drop_zero]
    change wpStill _ _ w3.drew _ _ _
    iterate 6 still_step
    refine wpStill_load_at rfl 64 (.tmp 65) rfl w.heap.size 1 rfl (bytesV (fill64 b)) _ HQX.out Tryd.underlying64 rfl (by rw [HLF.out]; exact size_data) ?_
    still_step
    refine wpStill_nil ?_
    change wpList _ _ _ _ _ w3.drew
    refine wpList_store_at rfl 64 (.tmp 67) (.tmp 66) rfl bb (i * 64) (bytesV (fill64 b)) rfl rfl 64 (bytesV bs ++ sp) HQB.out (by rw [HLF.out]; exact size_data) (by rw [HLF.out, List.length_append, HLB.out]; omega) (one_bytesV _) ?_
    go_wp2
    go_ret
    refine ⟨rfl, w2, HBOX.out, ?_⟩
    rw [HW3.out, lay_spare bs i n _ sp HLB2 hm h1, List.append_assoc]

set_option maxRecDepth 100000 in
set_option maxHeartbeats 2000000 in
/-- A disk with a fuse that has no step left: its power goes. -/
theorem write_cut (g bb bf n cap : Nat) (sp : List Value) (bs : List UInt8) (st : Int) (i : Nat) (A : Option Addr) (b : List UInt8) (c : Nat) (w : World) (hd : DiskAt w g bb (.pointer (some ⟨bf, 0, none⟩)) (.pointer none) n cap sp bs (some 0) none st)
    (h1 : i < n) (_hn : n ≤ 4096) (hm : b.length ≤ 64) (hr : BytesAt w A b)  :
    Calls Tryd.prog 9 #[.pointer (some ⟨g, 0, none⟩), .int .i64 i, .slice A b.length c] w fun e w' => e = .returned (.iface 54 (.int .i64 19)) ∧
      ∃ w1, Boxed w w1 i b ∧ w' = w1.setCell ⟨g, 2, none⟩ (.pointer (some ⟨w.heap.size, 0, none⟩)) := by
  have hcu := there_any g bb n cap i w hd.c0
  rw [decide_eq_true (by omega : (0 : Int) ≤ i), decide_eq_true (by omega : (i : Int) < n)] at hcu
  have hdd := dead_no g w hd.c2
  have hbu := built_write i
  have hz : ∀ w : World, (zeroValue 66).run Tryd.prog w = .ok (.agg (writeCells 0 zero64).toArray) w := fun _ => by kernel_rfl
  have hs0 : (writeCells 0 zero64).toArray.size = 65 := by simp [writeCells, len_bytesV, len_zero64]
  have hsi : (writeCells i zero64).toArray.size = 65 := by simp [writeCells, len_bytesV, len_zero64]
  have ho1 : (writeCells i zero64).toArray.all (·.oneCell') = true := by
    simp [writeCells, bytesV, zero64]; exact ⟨rfl, rfl⟩
  generalize (writeCells 0 zero64).toArray = z0 at hz hs0
  generalize hzi : (writeCells i zero64).toArray = zi at hbu hsi ho1
  have HZ := Lib.hid hzi
  have HB := Lib.hid hbu
  have HS0 := Lib.hid hs0
  have HSi := Lib.hid hsi
  have HO1 := Lib.hid ho1
  have hm2 : ¬ (64 : Int) < (b.length : Int) := by omega
  clear hbu hs0 hsi ho1 hzi
  go_enter Tryd.func9, Tryd.ntmps9
  go_upto_region 8 with (first | (go_at_call 20; refine hcu.mono ?_; rintro e w' ⟨rfl, rfl⟩) | (go_at_call 21; refine hdd.mono ?_; rintro e w' ⟨rfl, rfl⟩) | (refine wpList_build_eq rfl 66 #[(0, .tmp 23)] rfl [(0, .int .i64 i)] rfl zi HB.out ?_) | (refine wpList_store_row rfl 66 (.tmp 7) (.tmp 24) rfl w.heap.size zi rfl rfl 66 z0 (heap_alloc_new _ _) (by rw [HSi.out]; exact size_write) (by rw [HS0.out, HSi.out]) HO1.out ?_))
  have hB1 : Below w.heap.size w ((w.alloc (.cells z0 66)).setRow w.heap.size zi) := below_setRow ((Below.refl _ w).alloc (Nat.le_refl _) _) (Nat.le_refl _) _
  have hX1 : ((w.alloc (.cells z0 66)).setRow w.heap.size zi).heap[w.heap.size]? = some (.cells (writeCells i zero64).toArray 66 (0, 0)) := by
    rw [HZ.out]; exact setRow_heap _ _ _ _ _ _ (heap_alloc_new _ _)
  generalize ((w.alloc (.cells z0 66)).setRow w.heap.size zi) = w1 at hB1 hX1 ⊢
  have HX1 := Lib.hid hX1
  have HR := Lib.hid (hr.below hB1)
  have HD := Lib.hid hd
  clear hX1 hr hd hz
  go_wp2_with (refine wpList_copy_splice rfl (.tmp 26) (.tmp 27) 39 39 rfl 5 Tryd.underlying39 size_byte (some ⟨w.heap.size, 1, none⟩) A 64 64 b.length c rfl rfl w.heap.size 1 (writeCells i zero64) 66 HX1.out (bytesV b) ?hn ?hp ?hf (one_bytesV b) w.heap.size w hB1 (Nat.le_refl _) ?hk)
  case hn => rw [len_bytesV]; show _ = min _ _; omega
  case hf => rw [len_bytesV, len_writeCells, len_zero64]; omega
  case hp =>
    intro h0
    rcases HR.out with h | h
    · rw [h] at h0; exact absurd h0 (by simp [bytesV])
    · obtain ⟨ad, e, h⟩ := h; exact ⟨ad, e, h⟩
  case hk =>
    rw [splice_write i b]
    intro w2 hx2 hB2
    have hbox : Boxed w w2 i b := ⟨hB2, hx2.out⟩
    have hd2 := HD.out.below hB2
    have e0 := hd2.c0
    have e1 := hd2.c1
    have e2 := hd2.c2
    have f2 := blk_frozen hd2.hd 2
    obtain ⟨bf', ebf, hbf⟩ := hd2.hf
    injection ebf with ebf
    injection ebf with ebf
    injection ebf with ebf _ _
    subst ebf
    have ek : w2.cell? ⟨bf, 0, none⟩ = some (.int .i64 0) := by rw [blk_cell hbf]; rfl
    have HBOX := Lib.hid hbox
    clear HR HX1 hB1 hcu hdd hx2 hd2 hbf hbox
    go_wp2
    go_ret
    exact ⟨rfl, w2, HBOX.out, rfl⟩

set_option maxHeartbeats 1000000 in
theorem write_range (g bb n cap : Nat) (i : Int) (s : Value) (w : World) (h0 : w.cell? ⟨g, 0, none⟩ = some (.slice (some ⟨bb, 0, none⟩) n cap)) (hr : ¬ (0 ≤ i ∧ i < n)) :
    Calls Tryd.prog 9 #[.pointer (some ⟨g, 0, none⟩), .int .i64 i, s] w fun e w' => e = .returned (.iface 54 (.int .i64 8)) ∧ w = w' := by
  have hcu := there_any g bb n cap i w h0
  rw [show (decide (0 ≤ i) && decide (i < (n : Int))) = false by simp; omega] at hcu
  clear hr
  go_enter Tryd.func9, Tryd.ntmps9
  go_wp2_with (go_at_call 20; refine hcu.mono ?_; rintro e w' ⟨rfl, rfl⟩)
  go_ret
  exact ⟨rfl, rfl⟩

set_option maxHeartbeats 1000000 in
theorem write_long (g bb n cap : Nat) (i : Int) (A : Option Addr) (m c : Nat) (w : World) (h0 : w.cell? ⟨g, 0, none⟩ = some (.slice (some ⟨bb, 0, none⟩) n cap)) (hr : 0 ≤ i ∧ i < n) (hm : 64 < m) :
    Calls Tryd.prog 9 #[.pointer (some ⟨g, 0, none⟩), .int .i64 i, .slice A m c] w fun e w' => e = .returned (.iface 54 (.int .i64 2)) ∧ w = w' := by
  have hcu := there_any g bb n cap i w h0
  rw [show (decide (0 ≤ i) && decide (i < (n : Int))) = true by simp; omega] at hcu
  clear hr
  have hm2 : (64 : Int) < (m : Int) := by omega
  go_enter Tryd.func9, Tryd.ntmps9
  go_wp2_with (go_at_call 20; refine hcu.mono ?_; rintro e w' ⟨rfl, rfl⟩)
  go_ret
  exact ⟨rfl, rfl⟩

set_option maxHeartbeats 1000000 in
theorem write_dead (g bb n cap : Nat) (a : Addr) (i : Int) (A : Option Addr) (m c : Nat) (w : World) (h0 : w.cell? ⟨g, 0, none⟩ = some (.slice (some ⟨bb, 0, none⟩) n cap)) (h2 : w.cell? ⟨g, 2, none⟩ = some (.pointer (some a))) (hr : 0 ≤ i ∧ i < n) (hm : ¬ 64 < m) :
    Calls Tryd.prog 9 #[.pointer (some ⟨g, 0, none⟩), .int .i64 i, .slice A m c] w fun e w' => e = .returned (.iface 54 (.int .i64 19)) ∧ w = w' := by
  have hcu := there_any g bb n cap i w h0
  have hdd := dead_yes g a w h2
  rw [show (decide (0 ≤ i) && decide (i < (n : Int))) = true by simp; omega] at hcu
  clear hr
  have hm2 : ¬ (64 : Int) < (m : Int) := by omega
  go_enter Tryd.func9, Tryd.ntmps9
  go_wp2_with (first | (go_at_call 20; refine hcu.mono ?_; rintro e w' ⟨rfl, rfl⟩) | (go_at_call 21; refine hdd.mono ?_; rintro e w' ⟨rfl, rfl⟩))
  go_ret
  exact ⟨rfl, rfl⟩

end Go.Proofs.YtlbfjnmhnpioaaaDoor
