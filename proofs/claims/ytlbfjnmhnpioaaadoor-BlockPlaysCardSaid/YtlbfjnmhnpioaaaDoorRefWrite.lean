/-
  The document's Write.
-/
import Derived.Test.YtlbfjnmhnpioaaaDoorRef06
namespace Go.Proofs.YtlbfjnmhnpioaaaDoor
open Go.RowKit
set_option linter.unusedVariables false
set_option linter.unusedSimpArgs false

theorem start_D (w : World) (d : DV) (s : Value) :
    Below w.heap.size w ((w.alloc (.cells (d.cells s).toArray 35)).alloc (.cells ZD 35)) ∧
    DAt ((w.alloc (.cells (d.cells s).toArray 35)).alloc (.cells ZD 35)) w.heap.size d s ∧
    ZAt ((w.alloc (.cells (d.cells s).toArray 35)).alloc (.cells ZD 35)) (w.heap.size + 1) ∧
    ((w.alloc (.cells (d.cells s).toArray 35)).alloc (.cells ZD 35)).heap.size = w.heap.size + 2 := by
  have hB0 : Below w.heap.size w (w.alloc (.cells (d.cells s).toArray 35)) := (Below.refl _ w).alloc (Nat.le_refl _) _
  refine ⟨hB0.alloc hB0.size _, (dat_new w d s).below ((Below.refl _ _).alloc (Nat.le_refl _) _), ?_, by simp⟩
  have := heap_alloc_new (w.alloc (.cells (d.cells s).toArray 35)) (.cells ZD 35)
  rw [show (w.alloc (.cells (d.cells s).toArray 35)).heap.size = w.heap.size + 1 by simp] at this
  exact this

set_option maxRecDepth 100000 in
set_option maxHeartbeats 400000 in
theorem refWrite_range (d : DV) (s : Value) (hb : d.r.b.length = 64) (hs : s.oneCell' = true) (i : Int) (v : Value) (hr : ¬ (0 ≤ i ∧ i < d.n)) (w : World) :
    Calls Tryd.prog 10 #[.agg (d.cells s).toArray, .int .i64 i, v] w fun e w' => e = .returned (.tuple #[.agg (d.cells s).toArray, .int .i64 8]) ∧ Below w.heap.size w w' := by
  have hz := zero_D
  obtain ⟨hB1, hD1, hZ1, _⟩ := start_D w d s
  generalize hC : (d.cells s).toArray = C at hB1 hD1 hZ1 ⊢
  go_enter Tryd.func10, Tryd.ntmps10
  go_upto_region 1 with fail
  clear hz
  generalize ((w.alloc (.cells C 35)).alloc (.cells ZD 35)) = W1 at hB1 hD1 hZ1 ⊢
  have c0 : W1.cell? ⟨w.heap.size, 0, none⟩ = some (.int .i64 d.n) := by rw [hD1.cell, d.get0 s]
  have HD1 := Lib.hid hD1
  have HZ1 := Lib.hid hZ1
  have HC := Lib.hid hC
  clear hD1 hZ1 hC
  by_cases h0 : i < 0
  · go_upto_region 2 with fail
    refine wp_region_lit ?_
    refine wpList_give d s hb hs w.heap.size (w.heap.size + 1) 18 (.tmp 3) (.tmp 6) HD1.out HZ1.out rfl rfl rfl rfl rfl rfl rfl (by simp) ?_
    intro X hX hg
    have hld := hX.load hb
    have hb3 := hB1.grown hg hB1.size (fun k hk => by injection hk with hk; omega)
    rw [HC.out] at hld
    have HLD := Lib.hid hld
    clear hld hX
    rw [HC.out]
    go_wp2_with fail
    exact bodyPost_ret (results_cell_tmp rfl _ _ X ⟨w.heap.size + 1, 0, none⟩ rfl (.agg C) HLD.out) rfl ⟨rfl, hb3⟩
  · have h1 : ¬ i < d.n := by omega
    go_upto_region 2 with fail
    refine wp_region_lit ?_
    refine wpList_give d s hb hs w.heap.size (w.heap.size + 1) 18 (.tmp 3) (.tmp 6) HD1.out HZ1.out rfl rfl rfl rfl rfl rfl rfl (by simp) ?_
    intro X hX hg
    have hld := hX.load hb
    have hb3 := hB1.grown hg hB1.size (fun k hk => by injection hk with hk; omega)
    rw [HC.out] at hld
    have HLD := Lib.hid hld
    clear hld hX
    rw [HC.out]
    go_wp2_with fail
    exact bodyPost_ret (results_cell_tmp rfl _ _ X ⟨w.heap.size + 1, 0, none⟩ rfl (.agg C) HLD.out) rfl ⟨rfl, hb3⟩

set_option maxRecDepth 100000 in
set_option maxHeartbeats 400000 in
theorem refWrite_long (d : DV) (s : Value) (hb : d.r.b.length = 64) (hs : s.oneCell' = true) (i : Int) (A : Option Addr) (m c : Nat) (hm : 64 < m) (hr : 0 ≤ i ∧ i < d.n) (w : World) :
    Calls Tryd.prog 10 #[.agg (d.cells s).toArray, .int .i64 i, .slice A m c] w fun e w' => e = .returned (.tuple #[.agg (d.cells s).toArray, .int .i64 2]) ∧ Below w.heap.size w w' := by
  have hz := zero_D
  obtain ⟨hB1, hD1, hZ1, _⟩ := start_D w d s
  generalize hC : (d.cells s).toArray = C at hB1 hD1 hZ1 ⊢
  go_enter Tryd.func10, Tryd.ntmps10
  go_upto_region 1 with fail
  clear hz
  generalize ((w.alloc (.cells C 35)).alloc (.cells ZD 35)) = W1 at hB1 hD1 hZ1 ⊢
  have c0 : W1.cell? ⟨w.heap.size, 0, none⟩ = some (.int .i64 d.n) := by rw [hD1.cell, d.get0 s]
  have HD1 := Lib.hid hD1
  have HZ1 := Lib.hid hZ1
  have HC := Lib.hid hC
  obtain ⟨hr1, hr2⟩ := hr
  clear hD1 hZ1 hC
  go_upto_region 4 with fail
  refine wp_region_lit ?_
  refine wpList_give d s hb hs w.heap.size (w.heap.size + 1) 22 (.tmp 3) (.tmp 6) HD1.out HZ1.out rfl rfl rfl rfl rfl rfl rfl (by simp) ?_
  intro X hX hg
  have hld := hX.load hb
  have hb3 := hB1.grown hg hB1.size (fun k hk => by injection hk with hk; omega)
  rw [HC.out] at hld
  have HLD := Lib.hid hld
  clear hld hX
  rw [HC.out]
  go_wp2_with fail
  exact bodyPost_ret (results_cell_tmp rfl _ _ X ⟨w.heap.size + 1, 0, none⟩ rfl (.agg C) HLD.out) rfl ⟨rfl, hb3⟩

/-- A write of the document in a block of its own. -/
def WAt (w : World) (g : Nat) (x : WV) : Prop := w.heap[g]? = some (.cells x.cells.toArray 33 (0, 0))
theorem WAt.below {w w' : World} {g : Nat} {x : WV} (h : WAt w g x) (hb : Below w.heap.size w w') : WAt w' g x := (hb.block g (blk_lt h)).trans h
def blankW (i : Int) : WV := ⟨i, List.replicate 64 0, 64⟩
theorem built_W (i : Int) : Tryd.prog.built 33 [(0, .int .i64 i), (2, .int .i64 64)] = some (blankW i).cells.toArray := by kernel_rfl
theorem sizeW (x : WV) (h : x.b.length = 64) : (Tryd.prog.info? 33).map (·.size) = some x.cells.length := by rw [x.len h]; exact size_W
theorem store_newW {ops : Array Oper} {rest : List Oper} {o : Oper} {a : Act} {w : World} {Q : Exit → Act → World → Prop} (v : WV) (hv : v.b.length = 64) (hgd : o.guard = none) (x y : Operand) (ho : o.op = .store 33 x y)
    (hx : a.eval x = .pointer (some ⟨w.heap.size, 0, none⟩)) (hy : a.eval y = .agg v.cells.toArray)
    (h : ∀ X, WAt X w.heap.size v → Below w.heap.size w X → X.heap.size = w.heap.size + 1 → wpList Tryd.prog ops Q rest (a.put o.dst undef) X) : wpList Tryd.prog ops Q (o :: rest) a (w.alloc (.cells ZW 33)) := by
  refine wpList_store_all hgd 33 x y ho w.heap.size v.cells hx hy 33 zeroW.cells (heap_alloc_new _ _) (sizeW v hv) (by rw [v.len hv, zeroW.len (by simp [zeroW])]) v.one ?_
  rw [setRow_new]
  exact h _ (heap_alloc_new _ _) ((Below.refl _ w).alloc (Nat.le_refl _) _) (by simp)

/-- The first j bytes of b, and noughts behind. -/
def partB (b : List UInt8) (j : Nat) : List UInt8 := b.take j ++ List.replicate (64 - j) 0
theorem len_partB (b : List UInt8) (j : Nat) (hj : j ≤ b.length) (hb : b.length ≤ 64) : (partB b j).length = 64 := by simp [partB]; omega
theorem partB_all (b : List UInt8) : partB b b.length = fill64 b := by simp [partB, fill64]
theorem partB_set (b : List UInt8) (j : Nat) (hb : b.length ≤ 64) (x : UInt8) (hx : b[j]? = some x) : (partB b j).set j x = partB b (j + 1) := by
  have hj : j < b.length := (List.getElem?_eq_some_iff.1 hx).1
  unfold partB
  have h1 : (b.take j).length = j := by simp; omega
  rw [List.set_append_right _ _ (by omega), h1, Nat.sub_self, List.take_add_one, hx, show 64 - j = (64 - (j + 1)) + 1 by omega, List.replicate_succ]
  simp
theorem DV.setW (d : DV) (s : Value) (x : WV) (h : d.r.b.length = 64) (hx : x.b.length = 64) : (d.cells s).take 2 ++ x.cells ++ (d.cells s).drop (2 + x.cells.length) = { d with r := x }.cells s := by
  have h1 := d.r.len h
  rw [x.len hx]
  show [.int .i64 d.n, s] ++ x.cells ++ (.int .i64 d.n :: s :: (d.r.cells ++ [.bool d.dead, .int .i64 d.fuse, .int .i64 d.steps])).drop 68 = _
  rw [List.drop_succ_cons, List.drop_succ_cons, List.drop_append, List.drop_eq_nil_of_le (by omega), h1]
  rfl
/-- The region 'd.Refused = w'. -/
theorem wpList_refuse {ops : Array Oper} {rest : List Oper} {o : Oper} {a : Act} {w : World} {Q : Exit → Act → World → Prop} (d : DV) (s : Value) (x : WV) (hb : d.r.b.length = 64) (hx : x.b.length = 64) (g : Nat) (p y : Operand)
    (hD : DAt w g d s) (hgd : o.guard = none) (ho : o.op = .store 33 p y) (hp : a.eval p = .pointer (some ⟨g, 2, none⟩)) (hy : a.eval y = .agg x.cells.toArray)
    (h : ∀ X, DAt X g { d with r := x } s → w.grownBy X (some g) → wpList Tryd.prog ops Q rest (a.put o.dst undef) X) : wpList Tryd.prog ops Q (o :: rest) a w := by
  refine wpList_store_at hgd 33 p y ho g 2 x.cells hp hy 35 (d.cells s) hD (sizeW x hx) (by rw [x.len hx, d.len s hb]; omega) x.one ?_
  rw [d.setW s x hb hx]
  exact h _ (setRow_heap _ _ _ _ _ _ hD) ⟨rfl, rfl, rfl, by simp, fun k _ hk => setRow_other w g k _ (fun e => hk (by rw [e]))⟩

theorem partB_next (b : List UInt8) (j : Nat) (hj : j < b.length) (hb : b.length ≤ 64) : (partB b j)[j]? = some 0 := by
  have h1 : (b.take j).length = j := by simp; omega
  unfold partB
  rw [List.getElem?_append_right (by omega), h1, Nat.sub_self, List.getElem?_replicate, if_pos (by omega)]
theorem WAt.cellB {w : World} {g : Nat} {x : WV} (h : WAt w g x) (j : Nat) (u : UInt8) (hu : x.b[j]? = some u) : w.cell? ⟨g, 1 + j, none⟩ = some (.int .u8 u.toNat) := by
  rw [blk_cell h, List.getElem?_toArray]
  have hj := (List.getElem?_eq_some_iff.1 hu).1
  unfold WV.cells
  rw [show 1 + j = j + 1 by omega, List.getElem?_cons_succ, List.getElem?_append_left (by rw [len_bytesV]; omega)]
  simp [bytesV, hu]
theorem WAt.byte {w : World} {g : Nat} {x : WV} (h : WAt w g x) (hb : x.b.length = 64) (j : Nat) (hj : j < 64) (u : UInt8) : WAt (w.setCell ⟨g, 1 + j, none⟩ (.int .u8 u.toNat)) g { x with b := x.b.set j u } := by
  have := blk_set h (1 + j) (.int .u8 u.toNat)
  rw [List.setIfInBounds_toArray] at this
  have e : x.cells.set (1 + j) (.int .u8 u.toNat) = ({ x with b := x.b.set j u } : WV).cells := by
    unfold WV.cells
    rw [show 1 + j = j + 1 by omega, List.set_cons_succ, List.set_append_left _ _ (by rw [len_bytesV]; omega)]
    simp [bytesV, List.map_set]
  rw [e] at this
  exact this

set_option maxRecDepth 100000 in
set_option maxHeartbeats 800000 in
theorem refWrite_dead (d : DV) (s : Value) (hb : d.r.b.length = 64) (hs : s.oneCell' = true) (i : Int) (A : Option Addr) (b : List UInt8) (c : Nat) (h64 : b.length ≤ 64) (hr : 0 ≤ i ∧ i < d.n) (hdd : d.dead = true) (w : World) (hA : BytesAt w A b) :
    Calls Tryd.prog 10 #[.agg (d.cells s).toArray, .int .i64 i, .slice A b.length c] w fun e w' => e = .returned (.tuple #[.agg (d.cells s).toArray, .int .i64 19]) ∧ Below w.heap.size w w' := by
  have hz := zero_D
  have hzW := zero_W
  obtain ⟨hB1, hD1, hZ1, hS1⟩ := start_D w d s
  generalize hC : (d.cells s).toArray = C at hB1 hD1 hZ1 hS1 ⊢
  go_enter Tryd.func10, Tryd.ntmps10
  go_upto_region 1 with fail
  clear hz
  generalize ((w.alloc (.cells C 35)).alloc (.cells ZD 35)) = W1 at hB1 hD1 hZ1 hS1 ⊢
  have c0 : W1.cell? ⟨w.heap.size, 0, none⟩ = some (.int .i64 d.n) := by rw [hD1.cell, d.get0 s]
  have HD1 := Lib.hid hD1
  have HZ1 := Lib.hid hZ1
  have HC := Lib.hid hC
  have HS1 := Lib.hid hS1
  have HA := Lib.hid hA
  obtain ⟨hr1, hr2⟩ := hr
  clear hD1 hZ1 hC hS1 hA
  go_upto_region 5 with fail
  generalize hK : (blankW i).cells.toArray = K
  go_wp2_with (first | (refine store_newW (blankW i) (by simp [blankW]) rfl (.tmp 8) (.tmp 24) rfl rfl (by rw [hK]; rfl) ?_) | (refine wpList_build_eq rfl 33 #[(0, .tmp 23), (2, .const (.int .i64 64))] rfl _ rfl K (hK ▸ built_W i) ?_))
  intro X hX hBX hSX
  have hDX := HD1.out.below hBX
  have hZX : ZAt X (w.heap.size + 1) := (hBX.block _ (blk_lt HZ1.out)).trans HZ1.out
  have hBw : Below w.heap.size w X := hB1.trans (hBX.mono hB1.size)
  have HDX := Lib.hid hDX
  have HZX := Lib.hid hZX
  have HX := Lib.hid hX
  clear hK hDX hZX hX hzW c0
  go_wp2_with fail
  go_loopw [27] (fun i' wq => ∃ j : Nat, j ≤ b.length ∧ i' = .int .i64 j ∧ Below w.heap.size w wq ∧ Hid (DAt wq w.heap.size d s) ∧ Hid (ZAt wq (w.heap.size + 1)) ∧ Hid (WAt wq W1.heap.size ⟨i, partB b j, 64⟩)) (fun i' _ => b.length - (intOf i').toNat)
  case atStart => exact ⟨0, Nat.zero_le _, rfl, hBw, HDX, HZX, HX⟩
  case round =>
    obtain ⟨j, hj, rfl, hq, hqD, hqZ, hqW⟩ := hrel
    by_cases hlt : j < b.length
    · obtain ⟨u, hu⟩ : ∃ u, b[j]? = some u := ⟨_, List.getElem?_eq_getElem hlt⟩
      obtain ⟨a, rfl, ha⟩ : ∃ a, A = some a ∧ ∀ j v, (bytesV b)[j]? = some v → w.cell? (a.add j) = some v := by
        rcases HA.out with h | h
        · subst h; simp at hlt
        · exact h
      have hau := ha j (.int .u8 u.toNat) (by simp [bytesV, hu])
      have ca : wr.cell? (a.add j) = some (.int .u8 u.toNat) := (hq.cell (World.block_lt_of_cell? w _ hau)).trans hau
      have cw := hqW.out.cellB j 0 (partB_next b j hlt h64)
      have fw := blk_frozen hqW.out (1 + j)
      have HU := Lib.hid hu
      clear ha hau hu
      go_wp2_with fail
      go_roundw
      case rel =>
        have hs1 := HS1.out
        refine ⟨j + 1, by omega, by go_num, hq.setCell (by show w.heap.size ≤ W1.heap.size; omega) _, Lib.hid ?_, Lib.hid ?_, Lib.hid ?_⟩
        · exact (Below.heap_setCell _ ⟨W1.heap.size, 1 + j, none⟩ _ _ (by show w.heap.size ≠ W1.heap.size; omega)).trans hqD.out
        · exact (Below.heap_setCell _ ⟨W1.heap.size, 1 + j, none⟩ _ _ (by show w.heap.size + 1 ≠ W1.heap.size; omega)).trans hqZ.out
        · have := hqW.out.byte (len_partB b j (by omega) h64) j (by omega) u
          rw [partB_set b j h64 u HU.out] at this
          exact this
      case measure => simp [intOf]; omega
    · have hjb : j = b.length := by omega
      subst hjb
      have c68 : wr.cell? ⟨w.heap.size, 68, none⟩ = some (.bool true) := by rw [hqD.out.cell, d.get68 s hb, hdd]
      have f68 := blk_frozen hqD.out 68
      go_upto_region 15 with fail
      have hD2 := hqD.out.dead hb true
      rw [show ({ d with dead := true } : DV) = d by rw [← hdd]] at hD2
      have hZ2 : ZAt (wr.setCell ⟨w.heap.size, 68, none⟩ (.bool true)) (w.heap.size + 1) := (Below.heap_setCell _ ⟨w.heap.size, 68, none⟩ _ _ (by show w.heap.size + 1 ≠ w.heap.size; omega)).trans hqZ.out
      have hB2 : Below w.heap.size w (wr.setCell ⟨w.heap.size, 68, none⟩ (.bool true)) := hq.setCell (Nat.le_refl _) _
      generalize wr.setCell ⟨w.heap.size, 68, none⟩ (.bool true) = W2 at hD2 hZ2 hB2 ⊢
      refine wp_region_lit ?_
      refine wpList_give d s hb hs w.heap.size (w.heap.size + 1) 51 (.tmp 3) (.tmp 6) hD2 hZ2 rfl rfl rfl rfl rfl rfl rfl (by simp) ?_
      intro X' hX' hg
      have hld := hX'.load hb
      have hb3 := hB2.grown hg hB2.size (fun k hk => by injection hk with hk; omega)
      rw [HC.out] at hld
      have HLD := Lib.hid hld
      clear hld hX'
      rw [HC.out]
      go_wp2_with fail
      exact bodyPost_ret (results_cell_tmp rfl _ _ X' ⟨w.heap.size + 1, 0, none⟩ rfl (.agg C) HLD.out) rfl ⟨rfl, hb3⟩

set_option maxRecDepth 100000 in
set_option maxHeartbeats 800000 in
theorem refWrite_cut (d : DV) (s : Value) (hb : d.r.b.length = 64) (hs : s.oneCell' = true) (i : Int) (A : Option Addr) (b : List UInt8) (c : Nat) (h64 : b.length ≤ 64) (hr : 0 ≤ i ∧ i < d.n) (hdd : d.dead = false) (hf : d.fuse = 0) (w : World) (hA : BytesAt w A b) :
    Calls Tryd.prog 10 #[.agg (d.cells s).toArray, .int .i64 i, .slice A b.length c] w fun e w' => e = .returned (.tuple #[.agg ({ d with r := ⟨i, fill64 b, 64⟩, dead := true }.cells s).toArray, .int .i64 19]) ∧ Below w.heap.size w w' := by
  have hz := zero_D
  have hzW := zero_W
  obtain ⟨hB1, hD1, hZ1, hS1⟩ := start_D w d s
  generalize hC : (d.cells s).toArray = C at hB1 hD1 hZ1 hS1 ⊢
  go_enter Tryd.func10, Tryd.ntmps10
  go_upto_region 1 with fail
  clear hz
  generalize ((w.alloc (.cells C 35)).alloc (.cells ZD 35)) = W1 at hB1 hD1 hZ1 hS1 ⊢
  have c0 : W1.cell? ⟨w.heap.size, 0, none⟩ = some (.int .i64 d.n) := by rw [hD1.cell, d.get0 s]
  have HD1 := Lib.hid hD1
  have HZ1 := Lib.hid hZ1
  have HC := Lib.hid hC
  have HS1 := Lib.hid hS1
  have HA := Lib.hid hA
  have HDD := Lib.hid hdd
  have HF := Lib.hid hf
  clear hdd hf
  obtain ⟨hr1, hr2⟩ := hr
  clear hD1 hZ1 hC hS1 hA
  go_upto_region 5 with fail
  generalize hK : (blankW i).cells.toArray = K
  go_wp2_with (first | (refine store_newW (blankW i) (by simp [blankW]) rfl (.tmp 8) (.tmp 24) rfl rfl (by rw [hK]; rfl) ?_) | (refine wpList_build_eq rfl 33 #[(0, .tmp 23), (2, .const (.int .i64 64))] rfl _ rfl K (hK ▸ built_W i) ?_))
  intro X hX hBX hSX
  have hDX := HD1.out.below hBX
  have hZX : ZAt X (w.heap.size + 1) := (hBX.block _ (blk_lt HZ1.out)).trans HZ1.out
  have hBw : Below w.heap.size w X := hB1.trans (hBX.mono hB1.size)
  have HDX := Lib.hid hDX
  have HZX := Lib.hid hZX
  have HX := Lib.hid hX
  clear hK hDX hZX hX hzW c0
  go_wp2_with fail
  go_loopw [27] (fun i' wq => ∃ j : Nat, j ≤ b.length ∧ i' = .int .i64 j ∧ Below w.heap.size w wq ∧ Hid (DAt wq w.heap.size d s) ∧ Hid (ZAt wq (w.heap.size + 1)) ∧ Hid (WAt wq W1.heap.size ⟨i, partB b j, 64⟩)) (fun i' _ => b.length - (intOf i').toNat)
  case atStart => exact ⟨0, Nat.zero_le _, rfl, hBw, HDX, HZX, HX⟩
  case round =>
    obtain ⟨j, hj, rfl, hq, hqD, hqZ, hqW⟩ := hrel
    by_cases hlt : j < b.length
    · obtain ⟨u, hu⟩ : ∃ u, b[j]? = some u := ⟨_, List.getElem?_eq_getElem hlt⟩
      obtain ⟨a, rfl, ha⟩ : ∃ a, A = some a ∧ ∀ j v, (bytesV b)[j]? = some v → w.cell? (a.add j) = some v := by
        rcases HA.out with h | h
        · subst h; simp at hlt
        · exact h
      have hau := ha j (.int .u8 u.toNat) (by simp [bytesV, hu])
      have ca : wr.cell? (a.add j) = some (.int .u8 u.toNat) := (hq.cell (World.block_lt_of_cell? w _ hau)).trans hau
      have cw := hqW.out.cellB j 0 (partB_next b j hlt h64)
      have fw := blk_frozen hqW.out (1 + j)
      have HU := Lib.hid hu
      clear ha hau hu
      go_wp2_with fail
      go_roundw
      case rel =>
        have hs1 := HS1.out
        refine ⟨j + 1, by omega, by go_num, hq.setCell (by show w.heap.size ≤ W1.heap.size; omega) _, Lib.hid ?_, Lib.hid ?_, Lib.hid ?_⟩
        · exact (Below.heap_setCell _ ⟨W1.heap.size, 1 + j, none⟩ _ _ (by show w.heap.size ≠ W1.heap.size; omega)).trans hqD.out
        · exact (Below.heap_setCell _ ⟨W1.heap.size, 1 + j, none⟩ _ _ (by show w.heap.size + 1 ≠ W1.heap.size; omega)).trans hqZ.out
        · have := hqW.out.byte (len_partB b j (by omega) h64) j (by omega) u
          rw [partB_set b j h64 u HU.out] at this
          exact this
      case measure => simp [intOf]; omega
    · have hjb : j = b.length := by omega
      subst hjb
      have c68 : wr.cell? ⟨w.heap.size, 68, none⟩ = some (.bool false) := by rw [hqD.out.cell, d.get68 s hb, HDD.out]
      have c69 : wr.cell? ⟨w.heap.size, 69, none⟩ = some (.int .i64 0) := by rw [hqD.out.cell, d.get69 s hb, HF.out]
      rw [partB_all] at hqW
      have hW8 := hqW.out
      unfold WAt at hW8
      generalize hL : WV.cells ⟨i, fill64 b, 64⟩ = L at hW8
      have h66 : (Tryd.prog.info? 33).map (·.size) = some L.length := by rw [← hL]; exact sizeW _ (len_fill64 b h64)
      have HL := Lib.hid hL
      have HW8 := Lib.hid hW8
      have H66 := Lib.hid h66
      clear hL hW8 h66
      go_upto_region 13 with fail
      go_wp2_with (first | (refine wpList_load_at rfl 33 (.tmp 8) rfl W1.heap.size 0 rfl L _ (fun j v hj => by rw [Nat.zero_add, blk_cell HW8.out, List.getElem?_toArray]; exact hj) Tryd.underlying33 rfl H66.out ?_) | (refine wpList_refuse d s ⟨i, fill64 b, 64⟩ hb (len_fill64 b h64) w.heap.size (.tmp 49) (.tmp 48) hqD.out rfl rfl rfl (by rw [HL.out]; rfl) ?_))
      intro X2 hX2 hg2
      have hB2 := hq.grown hg2 hq.size (fun k hk => by injection hk with hk; omega)
      have hZ2 : ZAt X2 (w.heap.size + 1) := (hg2.block _ (blk_lt hqZ.out) (by intro e; injection e with e; omega)).trans hqZ.out
      clear c68 c69
      have c68 : X2.cell? ⟨w.heap.size, 68, none⟩ = some (.bool d.dead) := by rw [hX2.cell]; exact DV.get68 { d with r := ⟨i, fill64 b, 64⟩ } s (len_fill64 b h64)
      have f68 := blk_frozen hX2 68
      have HX2 := Lib.hid hX2
      have HZ2 := Lib.hid hZ2
      clear hX2 hZ2
      go_upto_region 15 with fail
      have hD3 := HX2.out.dead (len_fill64 b h64) true
      have hZ3 : ZAt (X2.setCell ⟨w.heap.size, 68, none⟩ (.bool true)) (w.heap.size + 1) := (Below.heap_setCell _ ⟨w.heap.size, 68, none⟩ _ _ (by show w.heap.size + 1 ≠ w.heap.size; omega)).trans HZ2.out
      have hB3 : Below w.heap.size w (X2.setCell ⟨w.heap.size, 68, none⟩ (.bool true)) := hB2.setCell (Nat.le_refl _) _
      generalize X2.setCell ⟨w.heap.size, 68, none⟩ (.bool true) = W2 at hD3 hZ3 hB3 ⊢
      refine wp_region_lit ?_
      refine wpList_give { d with r := ⟨i, fill64 b, 64⟩, dead := true } s (len_fill64 b h64) hs w.heap.size (w.heap.size + 1) 51 (.tmp 3) (.tmp 6) hD3 hZ3 rfl rfl rfl rfl rfl rfl rfl (by simp) ?_
      intro X' hX' hg
      have hld := hX'.load (len_fill64 b h64)
      have hb3 := hB3.grown hg hB3.size (fun k hk => by injection hk with hk; omega)
      have HLD := Lib.hid hld
      clear hld hX'
      generalize hY : (DV.cells { d with r := ⟨i, fill64 b, 64⟩, dead := true } s).toArray = Y at HLD ⊢
      have HY := Lib.hid hY
      clear hY
      go_wp2_with fail
      exact bodyPost_ret (results_cell_tmp rfl _ _ X' ⟨w.heap.size + 1, 0, none⟩ rfl (.agg Y) HLD.out) rfl ⟨by rw [← HY.out]; rfl, hb3⟩

end Go.Proofs.YtlbfjnmhnpioaaaDoor
