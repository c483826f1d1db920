/-
  The document's disk.
-/
import Derived.Test.YtlbfjnmhnpioaaaDoorBlockActs
import Derived.Deep.Cut
namespace Go.Proofs.YtlbfjnmhnpioaaaDoor
open Go.RowKit
set_option linter.unusedVariables false
set_option linter.unusedSimpArgs false

/-- A write of the document. -/
structure WV where
  i : Int
  b : List UInt8
  laid : Int
def WV.cells (x : WV) : List Value := .int .i64 x.i :: (bytesV x.b ++ [.int .i64 x.laid])
/-- The document's disk, but for its list. -/
structure DV where
  n : Int
  r : WV
  dead : Bool
  fuse : Int
  steps : Int
def DV.cells (d : DV) (s : Value) : List Value := .int .i64 d.n :: s :: (d.r.cells ++ [.bool d.dead, .int .i64 d.fuse, .int .i64 d.steps])
def DV.val (d : DV) (s : Value) : Value := .agg (d.cells s).toArray
def noneW : WV := ⟨-1, List.replicate 64 0, 0⟩

def zeroW : WV := ⟨0, List.replicate 64 0, 0⟩
def zeroD : DV := ⟨0, zeroW, false, 0, 0⟩
def ZD : Array Value := (zeroD.cells (.slice none 0 0)).toArray
def ZW : Array Value := zeroW.cells.toArray
def NW : Array Value := noneW.cells.toArray
def newD (n : Int) : DV := ⟨n, noneW, false, -1, 0⟩
def ND (n : Int) : Array Value := ((newD n).cells (.slice none 0 0)).toArray
theorem zero_D (w : World) : (zeroValue 35).run Tryd.prog w = .ok (.agg ZD) w := by kernel_rfl
theorem zero_W (w : World) : (zeroValue 33).run Tryd.prog w = .ok (.agg ZW) w := by kernel_rfl
theorem built_NW : Tryd.prog.built 33 [(0, .int .i64 (-1))] = some NW := by kernel_rfl
theorem built_ZD : Tryd.prog.built 35 [] = some ZD := by kernel_rfl
theorem built_ND (n : Int) : Tryd.prog.built 35 [(0, .int .i64 n), (2, .agg NW), (4, .int .i64 (-1))] = some (ND n) := by kernel_rfl

theorem setRow_new (w : World) (t : TypeId) (cs ds : Array Value) (fr : Nat × Nat) : (w.alloc (.cells cs t fr)).setRow w.heap.size ds = w.alloc (.cells ds t fr) := by
  unfold World.setRow World.alloc
  congr 1
  apply Array.ext
  · simp
  · intro i h1 h2
    simp only [Array.getElem_modify, Array.getElem_push]
    by_cases h : w.heap.size = i
    · subst h; simp
    · have hi : i < w.heap.size := by simp at h1; omega
      simp [h, hi]

/-- A whole variable stored. -/
theorem wpList_store_all {P : Program} {ops : Array Oper} {rest : List Oper} {o : Oper} {a : Act} {w : World} {Q : Exit → Act → World → Prop} (hgd : o.guard = none) (ty : TypeId) (x y : Operand) (ho : o.op = .store ty x y)
    (g : Nat) (cs : List Value) (hx : a.eval x = .pointer (some ⟨g, 0, none⟩)) (hy : a.eval y = .agg cs.toArray)
    (t : TypeId) (cur : List Value) (hg : w.heap[g]? = some (.cells cur.toArray t (0, 0))) (hi : (P.info? ty).map (·.size) = some cs.length)
    (hold : cur.length = cs.length) (h1 : ∀ v ∈ cs, v.oneCell' = true)
    (h : wpList P ops Q rest (a.put o.dst undef) (w.setRow g cs.toArray)) : wpList P ops Q (o :: rest) a w := by
  refine wpList_store_at hgd ty x y ho g 0 cs hx hy t cur hg hi (by omega) h1 ?_
  rw [List.take_zero, List.nil_append, Nat.zero_add, ← hold, List.drop_length, List.append_nil]
  exact h

theorem size_D : (Tryd.prog.info? 35).map (·.size) = some 71 := by kernel_rfl
theorem size_W : (Tryd.prog.info? 33).map (·.size) = some 66 := by kernel_rfl
theorem WV.len (x : WV) (h : x.b.length = 64) : x.cells.length = 66 := by simp [WV.cells, len_bytesV, h]
theorem DV.len (d : DV) (s : Value) (h : d.r.b.length = 64) : (d.cells s).length = 71 := by simp [DV.cells, WV.len d.r h]
theorem WV.one (x : WV) : ∀ v ∈ x.cells, v.oneCell' = true := by
  intro v hv
  simp only [WV.cells, List.mem_cons, List.mem_append, List.not_mem_nil, or_false] at hv
  rcases hv with rfl | hv | rfl
  · rfl
  · exact one_bytesV _ v hv
  · rfl
theorem DV.one (d : DV) (s : Value) (h : s.oneCell' = true) : ∀ v ∈ d.cells s, v.oneCell' = true := by
  intro v hv
  simp only [DV.cells, List.mem_cons, List.mem_append, List.not_mem_nil, or_false] at hv
  rcases hv with rfl | rfl | hv | rfl | rfl | rfl
  · rfl
  · exact h
  · exact d.r.one v hv
  · rfl
  · rfl
  · rfl

theorem load_D {w : World} {g : Nat} {cs : List Value} (h : w.heap[g]? = some (.cells cs.toArray 35 (0, 0))) (hl : cs.length = 71) :
    (loadVar 35 ⟨g, 0, none⟩).run Tryd.prog w = .ok (.agg cs.toArray) w :=
  run_loadVar_at (P := Tryd.prog) w g 0 35 cs _ (fun j v hj => by rw [Nat.zero_add, blk_cell h]; simpa using hj) Tryd.underlying35 rfl (by rw [hl]; exact size_D)
theorem results_cell_tmp {fn : Func} {t u : Tmp} {ty : TypeId} (h : fn.results = #[.cell t ty, .tmp u]) (tmps : Array Value) (P : Program) (w : World) (a : Addr) (hp : tmps.getD t undef = .pointer (some a))
    (v : Value) (hl : (loadVar ty a).run P w = .ok v w) :
    (results fn tmps).run P w = .ok (.tuple #[v, tmps.getD u undef]) w := by
  have hp2 : (tmps[t]?).getD undef = .pointer (some a) := by rw [← hp]; simp
  simp [results, h, hp2, hl, asAddr]

theorem len_newD (n : Int) : ((newD n).cells (.slice none 0 0)).length = 71 := DV.len (newD n) _ (by simp [newD, noneW])
theorem len_zeroD : (zeroD.cells (.slice none 0 0)).length = 71 := DV.len zeroD _ (by simp [zeroD, zeroW])
theorem one_newD (n : Int) : ∀ v ∈ (newD n).cells (.slice none 0 0), v.oneCell' = true := DV.one _ _ rfl
theorem alloc_zeroD (w : World) : (w.alloc (.cells ZD 35)).heap[w.heap.size]? = some (.cells (zeroD.cells (.slice none 0 0)).toArray 35 (0, 0)) := heap_alloc_new _ _
theorem sizeNewD (n : Int) : (Tryd.prog.info? 35).map (·.size) = some ((newD n).cells (.slice none 0 0)).length := by rw [len_newD]; exact size_D
theorem holdND (n : Int) : (zeroD.cells (.slice none 0 0)).length = ((newD n).cells (.slice none 0 0)).length := by rw [len_newD, len_zeroD]
def newDC (n : Int) : List Value := (newD n).cells (.slice none 0 0)
theorem store_newD {ops : Array Oper} {rest : List Oper} {o : Oper} {a : Act} {w : World} {Q : Exit → Act → World → Prop} (n : Int) (hgd : o.guard = none) (x y : Operand) (ho : o.op = .store 35 x y)
    (hx : a.eval x = .pointer (some ⟨w.heap.size, 0, none⟩)) (hy : a.eval y = .agg (ND n))
    (h : wpList Tryd.prog ops Q rest (a.put o.dst undef) (w.alloc (.cells (ND n) 35))) : wpList Tryd.prog ops Q (o :: rest) a (w.alloc (.cells ZD 35)) := by
  refine wpList_store_all hgd 35 x y ho w.heap.size ((newD n).cells (.slice none 0 0)) hx hy 35 _ (alloc_zeroD w) (sizeNewD n) (holdND n) (one_newD n) ?_
  rw [setRow_new]
  exact h

set_option maxRecDepth 100000 in
set_option maxHeartbeats 4000000 in
theorem refNew_yes (n : Nat) (hn : 1 ≤ n) (hm : n ≤ 4096) (w : World) :
    Calls Tryd.prog 7 #[.int .i64 n] w fun e w' => e = .returned (.tuple #[.agg (ND n), .int .i64 0]) ∧ Below w.heap.size w w' := by
  have hz := zero_D
  go_enter Tryd.func7, Tryd.ntmps7
  go_upto_region 3 with fail
  go_wp2_with (first | (refine wpList_build_eq rfl 33 #[(0, .const (.int .i64 (-1)))] rfl _ rfl NW built_NW ?_) | (refine wpList_build_eq rfl 35 #[(0, .tmp 11), (2, .tmp 12), (4, .const (.int .i64 (-1)))] rfl _ rfl (ND n) (built_ND n) ?_; refine Hid.out ?_))
  refine Lib.hid ?_
  refine store_newD n rfl (.tmp 2) (.tmp 13) rfl rfl rfl ?_
  have hld : (loadVar 35 ⟨w.heap.size, 0, none⟩).run Tryd.prog (w.alloc (.cells (ND n) 35)) = .ok (.agg (ND n)) (w.alloc (.cells (ND n) 35)) := load_D (cs := (newD n).cells (.slice none 0 0)) (heap_alloc_new _ _) (len_newD n)
  have hb : Below w.heap.size w (w.alloc (.cells (ND n) 35)) := (Below.refl _ w).alloc (Nat.le_refl _) _
  have HLD := Lib.hid hld
  clear hld hz
  generalize w.alloc (.cells (ND n) 35) = X at HLD hb ⊢
  generalize hY : ND n = Y at HLD ⊢
  have HY := Lib.hid hY
  clear hY
  go_wp2_with fail
  refine bodyPost_ret (results_cell_tmp rfl _ _ X ⟨w.heap.size, 0, none⟩ rfl (.agg Y) HLD.out) rfl ⟨by rw [HY.out]; rfl, hb⟩

/-! ### The cells of a disk -/
theorem DV.get0 (d : DV) (s : Value) : (d.cells s)[0]? = some (.int .i64 d.n) := rfl
theorem DV.get1 (d : DV) (s : Value) : (d.cells s)[1]? = some s := rfl
theorem DV.get2 (d : DV) (s : Value) : (d.cells s)[2]? = some (.int .i64 d.r.i) := rfl
theorem DV.split (d : DV) (s : Value) (h : d.r.b.length = 64) (j : Nat) : (d.cells s)[68 + j]? = [.bool d.dead, .int .i64 d.fuse, .int .i64 d.steps][j]? := by
  have hl := d.r.len h
  show (.int .i64 d.n :: s :: (d.r.cells ++ [.bool d.dead, .int .i64 d.fuse, .int .i64 d.steps]))[68 + j]? = _
  rw [show 68 + j = (66 + j) + 1 + 1 by omega, List.getElem?_cons_succ, List.getElem?_cons_succ, List.getElem?_append_right (by omega)]
  congr 1
  omega
theorem DV.get68 (d : DV) (s : Value) (h : d.r.b.length = 64) : (d.cells s)[68]? = some (.bool d.dead) := d.split s h 0
theorem DV.get69 (d : DV) (s : Value) (h : d.r.b.length = 64) : (d.cells s)[69]? = some (.int .i64 d.fuse) := d.split s h 1
theorem DV.get70 (d : DV) (s : Value) (h : d.r.b.length = 64) : (d.cells s)[70]? = some (.int .i64 d.steps) := d.split s h 2
theorem DV.setAt (d : DV) (s : Value) (h : d.r.b.length = 64) (j : Nat) (v : Value) : (d.cells s).set (68 + j) v = .int .i64 d.n :: s :: (d.r.cells ++ [.bool d.dead, .int .i64 d.fuse, .int .i64 d.steps].set j v) := by
  have hl := d.r.len h
  show (.int .i64 d.n :: s :: (d.r.cells ++ [.bool d.dead, .int .i64 d.fuse, .int .i64 d.steps])).set (68 + j) v = _
  rw [show 68 + j = (66 + j) + 1 + 1 by omega, List.set_cons_succ, List.set_cons_succ, List.set_append_right _ _ (by omega)]
  rw [show 66 + j - d.r.cells.length = j by omega]
theorem DV.set68 (d : DV) (s : Value) (h : d.r.b.length = 64) (x : Bool) : (d.cells s).set 68 (.bool x) = { d with dead := x }.cells s := d.setAt s h 0 _
theorem DV.set69 (d : DV) (s : Value) (h : d.r.b.length = 64) (x : Int) : (d.cells s).set 69 (.int .i64 x) = { d with fuse := x }.cells s := d.setAt s h 1 _
theorem DV.set70 (d : DV) (s : Value) (h : d.r.b.length = 64) (x : Int) : (d.cells s).set 70 (.int .i64 x) = { d with steps := x }.cells s := d.setAt s h 2 _
theorem DV.set1 (d : DV) (s t : Value) : (d.cells s).set 1 t = d.cells t := rfl

/-- A disk of the document in a block of its own. -/
def DAt (w : World) (g : Nat) (d : DV) (s : Value) : Prop := w.heap[g]? = some (.cells (d.cells s).toArray 35 (0, 0))

theorem DAt.load {w : World} {g : Nat} {d : DV} {s : Value} (h : DAt w g d s) (hb : d.r.b.length = 64) : (loadVar 35 ⟨g, 0, none⟩).run Tryd.prog w = .ok (.agg (d.cells s).toArray) w :=
  load_D h (d.len s hb)
theorem DAt.cell {w : World} {g : Nat} {d : DV} {s : Value} (h : DAt w g d s) (i : Nat) : w.cell? ⟨g, i, none⟩ = (d.cells s)[i]? := by
  rw [blk_cell h, List.getElem?_toArray]
theorem DAt.fuse {w : World} {g : Nat} {d : DV} {s : Value} (h : DAt w g d s) (hb : d.r.b.length = 64) (x : Int) : DAt (w.setCell ⟨g, 69, none⟩ (.int .i64 x)) g { d with fuse := x } s := by
  have := blk_set h 69 (.int .i64 x)
  rw [List.setIfInBounds_toArray, d.set69 s hb] at this
  exact this
theorem DAt.steps {w : World} {g : Nat} {d : DV} {s : Value} (h : DAt w g d s) (hb : d.r.b.length = 64) (x : Int) : DAt (w.setCell ⟨g, 70, none⟩ (.int .i64 x)) g { d with steps := x } s := by
  have := blk_set h 70 (.int .i64 x)
  rw [List.setIfInBounds_toArray, d.set70 s hb] at this
  exact this
theorem DAt.dead {w : World} {g : Nat} {d : DV} {s : Value} (h : DAt w g d s) (hb : d.r.b.length = 64) (x : Bool) : DAt (w.setCell ⟨g, 68, none⟩ (.bool x)) g { d with dead := x } s := by
  have := blk_set h 68 (.bool x)
  rw [List.setIfInBounds_toArray, d.set68 s hb] at this
  exact this
theorem DAt.list {w : World} {g : Nat} {d : DV} {s : Value} (h : DAt w g d s) (t : Value) : DAt (w.setCell ⟨g, 1, none⟩ t) g d t := by
  have := blk_set h 1 t
  rw [List.setIfInBounds_toArray, d.set1 s t] at this
  exact this

/-- The first steps of each: the argument in a block, noughts in another. -/
theorem dat_new (w : World) (d : DV) (s : Value) : DAt (w.alloc (.cells (d.cells s).toArray 35)) w.heap.size d s := heap_alloc_new _ _
theorem DAt.below {w w' : World} {g : Nat} {d : DV} {s : Value} (h : DAt w g d s) (hb : Below w.heap.size w w') : DAt w' g d s := (hb.block g (blk_lt h)).trans h

/-- The result's block, ahead of its only store. -/
def ZAt (w : World) (r : Nat) : Prop := w.heap[r]? = some (.cells ZD 35 (0, 0))
theorem sizeD (d : DV) (s : Value) (h : d.r.b.length = 64) : (Tryd.prog.info? 35).map (·.size) = some (d.cells s).length := by rw [d.len s h]; exact size_D
/-- 'return d, c': the disk's block is loaded and stored into the result's. -/
theorem wpList_give {ops : Array Oper} {rest : List Oper} {o o2 : Oper} {a : Act} {w : World} {Q : Exit → Act → World → Prop} (d : DV) (s : Value) (hb : d.r.b.length = 64) (hs : s.oneCell' = true) (g r t : Nat) (x p : Operand)
    (hD : DAt w g d s) (hR : ZAt w r) (hgd : o.guard = none) (ho : o.op = .load 35 x) (hd : o.dst = some t) (hx : a.eval x = .pointer (some ⟨g, 0, none⟩))
    (hgd2 : o2.guard = none) (ho2 : o2.op = .store 35 p (.tmp t)) (hp : (a.put (some t) (.agg (d.cells s).toArray)).eval p = .pointer (some ⟨r, 0, none⟩)) (ht : t < a.tmps.size)
    (h : ∀ X, DAt X r d s → w.grownBy X (some r) → wpList Tryd.prog ops Q rest ((a.put (some t) (.agg (d.cells s).toArray)).put o2.dst undef) X) : wpList Tryd.prog ops Q (o :: o2 :: rest) a w := by
  refine wpList_load_at hgd 35 x ho g 0 hx (d.cells s) _ (fun j v hj => by rw [Nat.zero_add, hD.cell]; exact hj) Tryd.underlying35 rfl (sizeD d s hb) ?_
  rw [hd]
  refine wpList_store_all hgd2 35 p (.tmp t) ho2 r (d.cells s) hp ?_ 35 (zeroD.cells (.slice none 0 0)) hR (sizeD d s hb) (by rw [len_zeroD, d.len s hb]) (d.one s hs) ?_
  · simp [Act.put, Act.eval, ht]
  · exact h _ (setRow_heap _ _ _ _ _ _ hR) ⟨rfl, rfl, rfl, by simp, fun k _ hk => setRow_other w r k _ (fun e => hk (by rw [e]))⟩

set_option maxRecDepth 100000 in
set_option maxHeartbeats 400000 in
theorem refArm_yes (d : DV) (s : Value) (hb : d.r.b.length = 64) (hs : s.oneCell' = true) (k : Nat) (hd : d.dead = false) (w : World) :
    Calls Tryd.prog 14 #[.agg (d.cells s).toArray, .int .i64 k] w fun e w' => e = .returned (.tuple #[.agg ({ d with fuse := k }.cells s).toArray, .int .i64 0]) ∧ Below w.heap.size w w' := by
  have hz := zero_D
  have hd0 := dat_new w d s
  have hB0 : Below w.heap.size w (w.alloc (.cells (d.cells s).toArray 35)) := (Below.refl _ w).alloc (Nat.le_refl _) _
  generalize hC : (d.cells s).toArray = C at hd0 hB0 ⊢
  go_enter Tryd.func14, Tryd.ntmps14
  go_upto_region 1 with fail
  have hB1 : Below w.heap.size w ((w.alloc (.cells C 35)).alloc (.cells ZD 35)) := hB0.alloc hB0.size _
  have hD1 : DAt ((w.alloc (.cells C 35)).alloc (.cells ZD 35)) w.heap.size d s := hd0.below ((Below.refl _ _).alloc (Nat.le_refl _) _)
  have hZ1 : ZAt ((w.alloc (.cells C 35)).alloc (.cells ZD 35)) (w.heap.size + 1) := by
    have := heap_alloc_new (w.alloc (.cells C 35)) (.cells ZD 35)
    rw [show (w.alloc (.cells C 35)).heap.size = w.heap.size + 1 by simp] at this
    exact this
  clear hz hd0 hB0
  generalize ((w.alloc (.cells C 35)).alloc (.cells ZD 35)) = W1 at hB1 hD1 hZ1 ⊢
  have c68 : W1.cell? ⟨w.heap.size, 68, none⟩ = some (.bool false) := by rw [hD1.cell, d.get68 s hb, hd]
  have c69 : W1.cell? ⟨w.heap.size, 69, none⟩ = some (.int .i64 d.fuse) := by rw [hD1.cell, d.get69 s hb]
  have f69 := blk_frozen hD1 69
  have HD1 := Lib.hid hD1
  have HZ1 := Lib.hid hZ1
  have HC := Lib.hid hC
  clear hD1 hZ1 hC
  go_upto_region 6 with fail
  have hD2 := HD1.out.fuse hb k
  have hZ2 : ZAt (W1.setCell ⟨w.heap.size, 69, none⟩ (.int .i64 k)) (w.heap.size + 1) := (Below.heap_setCell _ ⟨w.heap.size, 69, none⟩ _ _ (by show w.heap.size + 1 ≠ w.heap.size; omega)).trans HZ1.out
  have hB2 : Below w.heap.size w (W1.setCell ⟨w.heap.size, 69, none⟩ (.int .i64 k)) := hB1.setCell (Nat.le_refl _) _
  clear c68 c69 f69
  generalize W1.setCell ⟨w.heap.size, 69, none⟩ (.int .i64 k) = W2 at hD2 hZ2 hB2 ⊢
  refine wp_region_lit ?_
  refine wpList_give { d with fuse := k } s hb hs w.heap.size (w.heap.size + 1) 14 (.tmp 2) (.tmp 4) hD2 hZ2 rfl rfl rfl rfl rfl rfl rfl (by simp) ?_
  intro X hX hg
  have hld := hX.load (d := { d with fuse := k }) hb
  have hb3 := hB2.grown hg hB2.size (fun k hk => by injection hk with hk; omega)
  have HLD := Lib.hid hld
  clear hld hX
  generalize hY : ((({ d with fuse := (k : Int) } : DV).cells s).toArray) = Y at HLD ⊢
  have HY := Lib.hid hY
  clear hY
  go_wp2_with fail
  refine bodyPost_ret (results_cell_tmp rfl _ _ X ⟨w.heap.size + 1, 0, none⟩ rfl (.agg Y) HLD.out) rfl ⟨by rw [HY.out]; rfl, hb3⟩

end Go.Proofs.YtlbfjnmhnpioaaaDoor
