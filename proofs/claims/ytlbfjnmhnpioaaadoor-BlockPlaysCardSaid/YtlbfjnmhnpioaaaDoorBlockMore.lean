/-
  Arm, Read, slices.Clone of bytes and of blocks, Crash.
-/
import Derived.Test.YtlbfjnmhnpioaaaDoorBlockSum
import Derived.Laws.AppendOwn
import Derived.Lib.SliceRun
namespace Go.Proofs.YtlbfjnmhnpioaaaDoor
open Go.RowKit
set_option linter.unusedVariables false

/-! ### Arm -/
def armC (s : St) (k : Int) : Int := if k < 0 then 8 else if s.c.isSome = true then 19 else 0
def armS (s : St) (k : Int) : St := if k < 0 ∨ s.c.isSome = true then s else { s with f := some k }

set_option maxHeartbeats 1000000 in
theorem arm_neg (g : Nat) (k : Int) (w : World) (hk : k < 0) :
    Calls Tryd.prog 13 #[.pointer (some ⟨g, 0, none⟩), .int .i64 k] w fun e w' => e = .returned (.iface 54 (.int .i64 8)) ∧ Below w.heap.size w w' := by
  go_enter Tryd.func13, Tryd.ntmps13
  go_wp2
  go_ret
  exact ⟨rfl, (Below.refl _ w).alloc (Nat.le_refl _) _⟩

set_option maxHeartbeats 1000000 in
theorem arm_dead (g : Nat) (k : Int) (a : Addr) (w : World) (hk : ¬ k < 0) (hg : g < w.heap.size) (h2 : w.cell? ⟨g, 2, none⟩ = some (.pointer (some a))) :
    Calls Tryd.prog 13 #[.pointer (some ⟨g, 0, none⟩), .int .i64 k] w fun e w' => e = .returned (.iface 54 (.int .i64 19)) ∧ Below w.heap.size w w' := by
  have hd := fun W (hb : Below w.heap.size w W) => dead_yes g a W ((hb.cell (p := ⟨g, 2, none⟩) hg).trans h2)
  clear h2
  have hb1 : Below w.heap.size w (w.alloc (.cells #[.int .i64 k] 3)) := (Below.refl _ w).alloc (Nat.le_refl _) _
  have hd1 := hd _ hb1
  go_enter Tryd.func13, Tryd.ntmps13
  go_wp2_with (go_at_call 21; refine hd1.mono ?_; rintro e w' ⟨rfl, rfl⟩)
  go_ret
  exact ⟨rfl, hb1⟩

set_option maxHeartbeats 1000000 in
theorem arm_free (g : Nat) (k : Int) (fu : Value) (w : World) (hk : ¬ k < 0) (hg : g < w.heap.size) (h1 : w.cell? ⟨g, 1, none⟩ = some fu) (f1 : w.frozen? ⟨g, 1, none⟩ = false) (h2 : w.cell? ⟨g, 2, none⟩ = some (.pointer none)) :
    Calls Tryd.prog 13 #[.pointer (some ⟨g, 0, none⟩), .int .i64 k] w fun e w' => e = .returned .nilIface ∧ w' = (w.alloc (.cells #[.int .i64 k] 3)).setCell ⟨g, 1, none⟩ (.pointer (some ⟨w.heap.size, 0, none⟩)) := by
  have hb1 : Below w.heap.size w (w.alloc (.cells #[.int .i64 k] 3)) := (Below.refl _ w).alloc (Nat.le_refl _) _
  have hd1 := dead_no g _ ((hb1.cell (p := ⟨g, 2, none⟩) hg).trans h2)
  have c1 := (hb1.cell (p := ⟨g, 1, none⟩) hg).trans h1
  have c2 := (hb1.frozen (p := ⟨g, 1, none⟩) hg).trans f1
  clear h1 h2 f1
  go_enter Tryd.func13, Tryd.ntmps13
  go_wp2_with (go_at_call 21; refine hd1.mono ?_; rintro e w' ⟨rfl, rfl⟩)
  go_ret
  exact ⟨rfl, (World.setCell_alloc_past _ _ _ _ hg).symm⟩

theorem arm_any {w : World} {g bb : Nat} {fu : Value} {n : Nat} {s : St} (hd : Disk w g bb fu n s) (k : Int) :
    Calls Tryd.prog 13 #[.pointer (some ⟨g, 0, none⟩), .int .i64 k] w fun e w' =>
      e = .returned (errV (armC s k)) ∧ (∃ fu', Disk w' g bb fu' n (armS s k) ∧ (fu' = fu ∨ fu' = .pointer (some ⟨w.heap.size, 0, none⟩))) ∧ Only (footD g bb fu) w w' := by
  obtain ⟨cu, cap, sp, hd⟩ := hd
  have hg := blk_lt hd.hd
  by_cases hk : k < 0
  · refine (arm_neg g k w hk).mono fun e w' ⟨he, hb⟩ => ?_
    rw [show armC s k = 8 by simp [armC, hk], show armS s k = s by rw [armS, if_pos (.inl hk)]]
    exact ⟨he, ⟨fu, ⟨cu, cap, sp, hd.below hb⟩, .inl rfl⟩, Only.of_below hb⟩
  · cases hc : s.c with
    | some c =>
      have hd2 := hd
      rw [hc] at hd2
      obtain ⟨b, rfl, _, _⟩ := hd2.hc
      refine (arm_dead g k _ w hk hg hd.c2).mono fun e w' ⟨he, hb⟩ => ?_
      rw [show armC s k = 19 by simp [armC, hk, hc], show armS s k = s by rw [armS, if_pos (.inr (by rw [hc]; rfl))]]
      exact ⟨he, ⟨fu, ⟨_, cap, sp, hd.below hb⟩, .inl rfl⟩, Only.of_below hb⟩
    | none =>
      have hd2 := hd
      rw [hc] at hd2
      obtain rfl : cu = .pointer none := hd2.hc
      refine (arm_free g k fu w hk hg hd.c1 (blk_frozen hd.hd 1) hd.c2).mono fun e w' ⟨he, hw⟩ => ?_
      have hb1 : Below w.heap.size w (w.alloc (.cells #[.int .i64 k] 3)) := (Below.refl _ w).alloc (Nat.le_refl _) _
      have hd1 := hd.below hb1
      rw [show armC s k = 0 by simp [armC, hk, hc], show armS s k = { s with f := some k } by rw [armS, if_neg (by simp [hk, hc])]]
      refine ⟨he, ⟨.pointer (some ⟨w.heap.size, 0, none⟩), ⟨.pointer none, cap, sp, ?_, ?_, hd.hl, ?_, ?_⟩, .inr rfl⟩, ?_⟩
      · rw [hw]
        exact (blk_set hd1.hd 1 _).trans rfl
      · rw [hw]
        exact (Below.heap_setCell _ ⟨g, 1, none⟩ _ _ (types_ne hd1.hb hd1.hd (by decide))).trans hd1.hb
      · rw [hw]
        exact ⟨_, rfl, (Below.heap_setCell _ ⟨g, 1, none⟩ _ _ (by show w.heap.size ≠ g; omega)).trans (heap_alloc_new _ _)⟩
      · show CutAt _ _ s.c
        rw [hc]
        rfl
      · rw [hw]
        exact (Only.of_below hb1).setCell (.inr (.inl rfl)) _

/-! ### slices.Clone of bytes -/
theorem Tryd.infoByte : (Tryd.prog.info? 5).map (fun i => (i.zero, i.size, i.bytes)) = some (some (.int .u8 0), 1, 1) := by kernel_rfl

set_option maxRecDepth 100000 in
set_option maxHeartbeats 2000000 in
theorem clone_bytes (ad : Addr) (cs : List Value) (m c : Nat) (w : World) (hm : cs.length = m) (hm0 : 0 < m) (hmx : m ≤ 1000000) (hc : ∀ j v, cs[j]? = some v → w.cell? (ad.add j) = some v) (h1 : ∀ v ∈ cs, v.oneCell' = true) :
    Calls Tryd.prog 22 #[.slice (some ad) m c] w fun e w' => ∃ v, e = .returned v ∧ w'.ownsRow w.heap.size 5 1 v m cs ∧ Below w.heap.size w w' := by
  obtain ⟨i0, hi, hz0, hz1, hz2⟩ := info_parts Tryd.infoByte
  have hnl := fun W => Lib.run_eql_slice_nil (P := Tryd.prog) W 39 5 (some ad) m c 0 0 Tryd.underlying39
  have Hm := Lib.hid hm
  have HI := Lib.hid hi
  have HC := Lib.hid hc
  have H1 := Lib.hid h1
  clear hm hi hc h1
  go_enter Tryd.func22, Tryd.ntmps22
  go_upto_region 3 with fail
  have hown : (w.alloc (.cells #[] 5)).ownsRow w.heap.size 5 1 (.slice (some ⟨w.heap.size, 0, none⟩) 0 0) 0 [] := by
    refine ⟨rfl, .inr ⟨w.heap.size, 0, #[], rfl, Nat.le_refl _, heap_alloc_new _ _, Nat.le_refl _, Nat.zero_le _, rfl, rfl⟩⟩
  have hb1 : Below w.heap.size w (w.alloc (.cells #[] 5)) := (Below.refl _ w).alloc (Nat.le_refl _) _
  have HO := Lib.hid hown
  clear hown
  go_wp2_with (at_builtin; go_loud (refine wpList_append_own _ rfl (.tmp 5) (.tmp 6) 39 rfl w.heap.size 5 i0 (.int .u8 0) 1 1 Tryd.underlying39 HI.out hz0 hz1 hz2 rfl (by decide) (.slice (some ⟨w.heap.size, 0, none⟩) 0 0) 0 [] rfl HO.out ad m c cs rfl ?hl ?hn H1.out ?h6 ?h7 (by simp) ?hk))
  case hl => rw [Hm.out, Nat.mul_one]
  case hn => exact fun j u hj => (hb1.cell (World.block_lt_of_cell? w _ (HC.out j u hj))).trans (HC.out j u hj)
  case h6 => unfold maxLen; omega
  case h7 => omega
  case hk =>
    intro v' w' ho hg _
    go_wp2
    go_ret
    refine ⟨v', rfl, by simpa using ho, hb1.grown hg (by simp) (fun k hk => ?_)⟩
    simp [Value.ownBlock] at hk
    omega

theorem size_zdata : (Value.agg (Array.replicate 64 (.int .u8 0))).cells.size = 64 := by show (Array.replicate 64 (Value.int .u8 0)).size = 64; simp

/-! ### slices.Clone of blocks -/
set_option maxRecDepth 100000 in
set_option maxHeartbeats 2000000 in
theorem clone_data (ad : Addr) (cs : List Value) (m c : Nat) (w : World) (hm : cs.length = m * 64) (hm0 : 0 < m) (hmx : m ≤ 4096) (hc : ∀ j v, cs[j]? = some v → w.cell? (ad.add j) = some v) (h1 : ∀ v ∈ cs, v.oneCell' = true) :
    Calls Tryd.prog 23 #[.slice (some ad) m c] w fun e w' => ∃ v, e = .returned v ∧ w'.ownsRow w.heap.size 64 64 v m cs ∧ Below w.heap.size w w' := by
  obtain ⟨i0, hi, hz0, hz1, hz2⟩ := info_parts Tryd.infoData
  have hnl := fun W => Lib.run_eql_slice_nil (P := Tryd.prog) W 55 64 (some ad) m c 0 0 Tryd.underlying55
  have Hm := Lib.hid hm
  have HI := Lib.hid hi
  have HC := Lib.hid hc
  have H1 := Lib.hid h1
  clear hm hi hc h1
  go_enter Tryd.func23, Tryd.ntmps23
  go_upto_region 3 with fail
  have hown : (w.alloc (.cells #[] 64)).ownsRow w.heap.size 64 64 (.slice (some ⟨w.heap.size, 0, none⟩) 0 0) 0 [] := by
    refine ⟨rfl, .inr ⟨w.heap.size, 0, #[], rfl, Nat.le_refl _, heap_alloc_new _ _, Nat.le_refl _, Nat.zero_le _, rfl, rfl⟩⟩
  have hb1 : Below w.heap.size w (w.alloc (.cells #[] 64)) := (Below.refl _ w).alloc (Nat.le_refl _) _
  have HO := Lib.hid hown
  clear hown
  go_wp2_with (at_builtin; go_loud (refine wpList_append_own _ rfl (.tmp 5) (.tmp 6) 55 rfl w.heap.size 64 i0 (.agg (Array.replicate 64 (.int .u8 0))) 64 64 Tryd.underlying55 HI.out hz0 hz1 hz2 size_zdata (by decide) (.slice (some ⟨w.heap.size, 0, none⟩) 0 0) 0 [] rfl HO.out ad m c cs rfl ?hl ?hn H1.out ?h6 ?h7 (by simp) ?hk))
  case hl => rw [Hm.out]
  case hn => exact fun j u hj => (hb1.cell (World.block_lt_of_cell? w _ (HC.out j u hj))).trans (HC.out j u hj)
  case h6 => unfold maxLen; omega
  case h7 => omega
  case hk =>
    intro v' w' ho hg _
    go_wp2
    go_ret
    refine ⟨v', rfl, by simpa using ho, hb1.grown hg (by simp) (fun k hk => ?_)⟩
    simp [Value.ownBlock] at hk
    omega

theorem own_laid {w : World} {base e size n : Nat} {v : Value} {xs : List Value} (h : w.ownsRow base e size v n xs) (hn : 0 < n) :
    ∃ b cap sp, v = .slice (some ⟨b, 0, none⟩) n cap ∧ base ≤ b ∧ n ≤ cap ∧ w.heap[b]? = some (.cells (xs ++ sp).toArray e (0, 0)) := by
  obtain ⟨hl, h⟩ := h
  rcases h with ⟨_, h0⟩ | ⟨b, cap, cur, rfl, hb, hh, hnc, _, hs, ht⟩
  · omega
  · refine ⟨b, cap, cur.toList.drop (n * size), rfl, hb, hnc, ?_⟩
    rw [hh, ← ht, List.take_append_drop]

/-! ### Read -/
def blockAt (bs : List UInt8) (i : Nat) : List UInt8 := (bs.drop (i * 64)).take 64
theorem len_blockAt (bs : List UInt8) (i n : Nat) (h : bs.length = n * 64) (hi : i < n) : (blockAt bs i).length = 64 := by
  have : i * 64 + 64 ≤ n * 64 := by omega
  simp [blockAt, h]; omega
theorem bytesV_get (bs : List UInt8) (sp : List Value) (i j : Nat) (v : Value) (h : (bytesV (blockAt bs i))[j]? = some v) : (bytesV bs ++ sp)[i * 64 + j]? = some v := by
  simp only [bytesV, blockAt, List.getElem?_map, List.getElem?_take, List.getElem?_drop] at h
  split at h
  · rw [List.getElem?_append_left]
    · simpa [bytesV] using h
    · simp only [bytesV, List.length_map]
      cases hb : bs[i * 64 + j]? with
      | none => rw [hb] at h; simp at h
      | some x => exact (List.getElem?_eq_some_iff.1 hb).1
  · simp at h

set_option maxRecDepth 100000 in
set_option maxHeartbeats 2000000 in
theorem read_yes (g bb n cap : Nat) (sp : List Value) (bs : List UInt8) (i : Nat) (w : World) (hi : i < n) (h0 : w.cell? ⟨g, 0, none⟩ = some (.slice (some ⟨bb, 0, none⟩) n cap))
    (hb : w.heap[bb]? = some (.cells (bytesV bs ++ sp).toArray 64 (0, 0))) (hl : bs.length = n * 64) :
    Calls Tryd.prog 11 #[.pointer (some ⟨g, 0, none⟩), .int .i64 i] w fun e w' => ∃ v, e = .returned (.tuple #[v, .nilIface]) ∧ w'.ownsRow w.heap.size 5 1 v 64 (bytesV (blockAt bs i)) ∧ Below w.heap.size w w' := by
  have hcu := there_any g bb n cap i w h0
  rw [decide_eq_true (by omega : (0 : Int) ≤ i), decide_eq_true (by omega : (i : Int) < n)] at hcu
  have hcl := clone_bytes ⟨bb, i * 64, none⟩ (bytesV (blockAt bs i)) 64 64 w (by rw [len_bytesV, len_blockAt bs i n hl hi]) (by omega) (by omega) (fun j v hj => by
    rw [addr_add, blk_cell hb, List.getElem?_toArray]
    exact bytesV_get bs sp i j v hj) (one_bytesV _)
  have HCL := Lib.hid hcl
  clear hcl hb
  go_enter Tryd.func11, Tryd.ntmps11
  go_wp2_with (first | (go_at_call 20; refine hcu.mono ?_; rintro e w' ⟨rfl, rfl⟩))
  refine HCL.out.mono ?_
  rintro e w1 ⟨v, rfl, hv, hb1⟩
  go_wp2
  go_ret2
  exact ⟨v, rfl, hv, hb1⟩

set_option maxHeartbeats 1000000 in
theorem read_no (g bb n cap : Nat) (i : Int) (w : World) (hr : ¬ (0 ≤ i ∧ i < n)) (h0 : w.cell? ⟨g, 0, none⟩ = some (.slice (some ⟨bb, 0, none⟩) n cap)) :
    Calls Tryd.prog 11 #[.pointer (some ⟨g, 0, none⟩), .int .i64 i] w fun e w' => e = .returned (.tuple #[.slice none 0 0, .iface 54 (.int .i64 8)]) ∧ w = w' := by
  have hcu := there_any g bb n cap i w h0
  rw [show (decide (0 ≤ i) && decide (i < (n : Int))) = false by simp; omega] at hcu
  clear hr
  go_enter Tryd.func11, Tryd.ntmps11
  go_wp2_with (go_at_call 20; refine hcu.mono ?_; rintro e w' ⟨rfl, rfl⟩)
  go_ret2
  exact ⟨rfl, rfl⟩

/-! ### Crash -/
theorem clone_disk (bb n cap : Nat) (sp : List Value) (bs : List UInt8) (w : World) (hn0 : 0 < n) (hn : n ≤ 4096) (hb : w.heap[bb]? = some (.cells (bytesV bs ++ sp).toArray 64 (0, 0))) (hl : bs.length = n * 64) :
    Calls Tryd.prog 23 #[.slice (some ⟨bb, 0, none⟩) n cap] w fun e w' => ∃ b cap' sp', e = .returned (.slice (some ⟨b, 0, none⟩) n cap') ∧ w.heap.size ≤ b ∧ n ≤ cap' ∧ w'.heap[b]? = some (.cells (bytesV bs ++ sp').toArray 64 (0, 0)) ∧ Below w.heap.size w w' := by
  refine (clone_data ⟨bb, 0, none⟩ (bytesV bs) n cap w (by rw [len_bytesV, hl]) hn0 hn (fun j v hj => ?_) (one_bytesV _)).mono fun e w' ⟨v, he, hv, hB⟩ => ?_
  · rw [addr_add, Nat.zero_add, blk_cell hb, List.getElem?_toArray, List.getElem?_append_left (List.getElem?_eq_some_iff.1 hj).1]
    exact hj
  · obtain ⟨b, cap', sp', hv2, h3, h4, h5⟩ := own_laid hv hn0
    exact ⟨b, cap', sp', by rw [he, hv2], h3, h4, h5, hB⟩

/-- A disk that came of a crash: no fuse, no cut, no steps. -/
def crashBs (s : St) (torn : Int) : List UInt8 :=
  match s.c with
  | none => s.bs
  | some (n, b) => if 0 < torn then layAt s.bs n (b.take (min torn 64).toNat) else s.bs
def crashS (s : St) (torn : Int) : St := { bs := crashBs s torn, f := none, c := none, st := 0 }

set_option maxRecDepth 100000 in
set_option maxHeartbeats 2000000 in
/-- Where nothing is laid. -/
theorem crash_plain (g bb n cap : Nat) (cu : Value) (sp : List Value) (bs : List UInt8) (torn : Int) (w : World) (hn0 : 0 < n) (hn : n ≤ 4096) (h0 : w.cell? ⟨g, 0, none⟩ = some (.slice (some ⟨bb, 0, none⟩) n cap)) (h2 : w.cell? ⟨g, 2, none⟩ = some cu)
    (hb : w.heap[bb]? = some (.cells (bytesV bs ++ sp).toArray 64 (0, 0))) (hl : bs.length = n * 64) (hg : g < w.heap.size) (hc : cu = .pointer none ∨ (∃ a, cu = .pointer (some a)) ∧ ¬ 0 < torn) :
    Calls Tryd.prog 15 #[.pointer (some ⟨g, 0, none⟩), .int .i64 torn] w fun e w' => ∃ b cap' sp' w1, w.heap.size ≤ b ∧ n ≤ cap' ∧ w1.heap[b]? = some (.cells (bytesV bs ++ sp').toArray 64 (0, 0)) ∧ Below w.heap.size w w1 ∧
      e = .returned (.pointer (some ⟨w1.heap.size, 0, none⟩)) ∧ w' = w1.alloc (.cells #[.slice (some ⟨b, 0, none⟩) n cap', .pointer none, .pointer none, .int .i64 0] 59) := by
  have hcl := clone_disk bb n cap sp bs w hn0 hn hb hl
  have HCL := Lib.hid hcl
  clear hcl hb
  go_enter Tryd.func15, Tryd.ntmps15
  go_wp2_with fail
  refine HCL.out.mono ?_
  rintro e w1 ⟨b, cap', sp', rfl, hb1, hb2, hb3, hb4⟩
  have q2 := (hb4.cell (p := ⟨g, 2, none⟩) hg).trans h2
  have hlt : g < w1.heap.size := Nat.lt_of_lt_of_le hg hb4.size
  have HV := Lib.hid hb3
  clear hb3 h0 h2
  rcases hc with rfl | ⟨⟨a, rfl⟩, ht⟩
  · go_wp2_with fail
    go_ret
    exact ⟨b, cap', sp', w1, hb1, hb2, HV.out, hb4, rfl, rfl⟩
  · go_wp2_with fail
    go_ret
    exact ⟨b, cap', sp', w1, hb1, hb2, HV.out, hb4, rfl, rfl⟩

theorem take_get (x : List UInt8) (m j : Nat) (v : Value) (h : (bytesV (x.take m))[j]? = some v) : (bytesV x)[j]? = some v := by
  simp only [bytesV, List.getElem?_map, List.getElem?_take] at h ⊢
  split at h
  · exact h
  · simp at h
theorem lay_any (bs : List UInt8) (i : Nat) (b : List UInt8) (sp : List Value) (hl : b.length + i * 64 ≤ bs.length) :
    bytesV (layAt bs i b) ++ sp = (bytesV bs ++ sp).take (i * 64) ++ bytesV b ++ (bytesV bs ++ sp).drop (i * 64 + (bytesV b).length) := by
  rw [bytesV_lay, List.take_append_of_le_length (by rw [len_bytesV]; omega), List.drop_append_of_le_length (by rw [len_bytesV, len_bytesV]; omega)]
  simp

set_option maxRecDepth 100000 in
set_option maxHeartbeats 4000000 in
/-- Where the first bytes of the cut are laid. -/
theorem crash_torn (g bb n cap k bc m : Nat) (sp : List Value) (bs x : List UInt8) (torn : Int) (w : World) (hm : m ≤ 64) (hm0 : 0 < m) (hmt : (64 < torn ∧ m = 64) ∨ torn = (m : Int)) (hn0 : 0 < n) (hn : n ≤ 4096) (h0 : w.cell? ⟨g, 0, none⟩ = some (.slice (some ⟨bb, 0, none⟩) n cap)) (h2 : w.cell? ⟨g, 2, none⟩ = some (.pointer (some ⟨bc, 0, none⟩)))
    (hx : w.heap[bc]? = some (.cells (writeCells k x).toArray 66 (0, 0))) (hxl : x.length = 64) (hk : k < n)
    (hb : w.heap[bb]? = some (.cells (bytesV bs ++ sp).toArray 64 (0, 0))) (hl : bs.length = n * 64) (hg : g < w.heap.size) :
    Calls Tryd.prog 15 #[.pointer (some ⟨g, 0, none⟩), .int .i64 torn] w fun e w' => ∃ b cap' sp' w1 w2, w.heap.size ≤ b ∧ n ≤ cap' ∧ w1.heap[b]? = some (.cells (bytesV bs ++ sp').toArray 64 (0, 0)) ∧ Below w.heap.size w w1 ∧
      e = .returned (.pointer (some ⟨w1.heap.size, 0, none⟩)) ∧ w2 = w1.alloc (.cells #[.slice (some ⟨b, 0, none⟩) n cap', .pointer none, .pointer none, .int .i64 0] 59) ∧
      w' = w2.drew.setRow b (bytesV (layAt bs k (x.take m)) ++ sp').toArray := by
  have hcl := clone_disk bb n cap sp bs w hn0 hn hb hl
  have HCL := Lib.hid hcl
  have HX := Lib.hid hx
  have hbc := blk_lt hx
  have htl : (bytesV (x.take m)).length = m := by rw [len_bytesV, List.length_take, hxl]; omega
  have HGT := Lib.hid (take_get x m)
  generalize x.take m = y at htl HGT ⊢
  have HTL := Lib.hid htl
  have hll : m + k * 64 ≤ (bytesV bs).length := by rw [len_bytesV, hl]; omega
  have HL := Lib.hid hl
  have HXL := Lib.hid hxl
  clear hcl hb hx htl hl hxl
  have hm5 : ¬ (64 : Int) < (m : Int) := by omega
  have hif : (if (64 : Int) < (m : Int) then (64 : Int) else (m : Int)) = (m : Int) := if_neg hm5
  rcases hmt with ⟨ht, rfl⟩ | rfl
  all_goals
    have ht0 : ∃ z : Int, 0 < z := ⟨1, by omega⟩
    go_enter Tryd.func15, Tryd.ntmps15
    go_wp2_with fail
    refine HCL.out.mono ?_
    rintro e w1 ⟨b, cap', sp', rfl, hb1, hb2, hb3, hb4⟩
    have q2 := (hb4.cell (p := ⟨g, 2, none⟩) hg).trans h2
    have hlt : g < w1.heap.size := Nat.lt_of_lt_of_le hg hb4.size
    have hblt := blk_lt hb3
    have HV := Lib.hid hb3
    have HX1 := Lib.hid ((hb4.block bc hbc).trans HX.out)
    have qx : w1.cell? ⟨bc, 0, none⟩ = some (.int .i64 k) := by rw [blk_cell HX1.out]; rfl
    have hbc1 : bc < w1.heap.size := Nat.lt_of_lt_of_le hbc hb4.size
    clear hb3 h0 h2 ht0
    go_wp2_with fail
    generalize hw2 : w1.alloc (.cells #[.slice (some ⟨b, 0, none⟩) n cap', .pointer none, .pointer none, .int .i64 0] 59) = w2
    have hB2 : Below w1.heap.size w1 w2 := by rw [← hw2]; exact (Below.refl _ w1).alloc (Nat.le_refl _) _
    have r0 : w2.cell? ⟨w1.heap.size, 0, none⟩ = some (.slice (some ⟨b, 0, none⟩) n cap') := by rw [← hw2, blk_cell (heap_alloc_new _ _)]; rfl
    have r2 := (hB2.cell (p := ⟨g, 2, none⟩) hlt).trans q2
    have r3 := (hB2.cell (p := ⟨bc, 0, none⟩) hbc1).trans qx
    have HW2 := Lib.hid hw2
    have HB := Lib.hid ((hB2.block b hblt).trans HV.out)
    have HC := Lib.hid (show ∀ j v, (bytesV y)[j]? = some v → w2.drew.cell? ((⟨bc, 1, none⟩ : Addr).add j) = some v from fun j v hj => by
      rw [addr_add]
      show w2.cell? _ = _
      rw [blk_cell ((hB2.block bc hbc1).trans HX1.out), List.getElem?_toArray, Nat.add_comm 1 j]
      simp only [writeCells, List.getElem?_cons_succ]
      exact HGT.out j v hj)
    clear hw2
    have n1 : (k : Int) < (n : Int) := by omega
    have n2 : (0 : Int) ≤ (k : Int) := by omega
    refine wp_region_still_tail 22 (by kernel_rfl) (by kernel_rfl) ?_
    simp only [List.take_succ_cons, List.take_zero, List.drop_succ_cons, List.drop_zero]
    change wpStill _ _ w2.drew _ _ _
    iterate 22 still_step
    refine wpStill_nil ?_
    change wpList _ _ _ _ _ w2.drew
    refine wpList_copy_row rfl (.tmp 34) (.tmp 43) 39 39 rfl 5 Tryd.underlying39 size_byte b (k * 64) 64 64 ⟨bc, 1, none⟩ _ 64 rfl rfl (bytesV bs ++ sp') 64 HB.out (bytesV y) ?_ HC.out ?_ (one_bytesV _) ?_
    · rw [HTL.out]; show _ = min _ _; omega
    · rw [HTL.out, List.length_append]; omega
    go_wp2_with fail
    go_ret
    refine ⟨b, cap', sp', w1, w2, hb1, hb2, HV.out, hb4, rfl, HW2.out.symm, ?_⟩
    rw [lay_any bs k _ sp' (by have h1 := HTL.out; have h2 := hll; rw [len_bytesV] at h1 h2; omega), List.append_assoc]

theorem crash_any {w : World} {g bb : Nat} {fu : Value} {n : Nat} {s : St} (hd : Disk w g bb fu n s) (hn0 : 0 < n) (hn : n ≤ 4096) (hk : ∀ k x, s.c = some (k, x) → k < n) (torn : Int) :
    Calls Tryd.prog 15 #[.pointer (some ⟨g, 0, none⟩), .int .i64 torn] w fun e w' =>
      ∃ g' bb', e = .returned (.pointer (some ⟨g', 0, none⟩)) ∧ w.heap.size ≤ g' ∧ w.heap.size ≤ bb' ∧ Disk w' g' bb' (.pointer none) n (crashS s torn) ∧ Below w.heap.size w w' := by
  obtain ⟨cu, cap, sp, hd⟩ := hd
  have hg := blk_lt hd.hd
  have plain : crashBs s torn = s.bs → (cu = .pointer none ∨ (∃ a, cu = .pointer (some a)) ∧ ¬ 0 < torn) → Calls Tryd.prog 15 #[.pointer (some ⟨g, 0, none⟩), .int .i64 torn] w fun e w' =>
      ∃ g' bb', e = .returned (.pointer (some ⟨g', 0, none⟩)) ∧ w.heap.size ≤ g' ∧ w.heap.size ≤ bb' ∧ Disk w' g' bb' (.pointer none) n (crashS s torn) ∧ Below w.heap.size w w' := by
    intro hbs hc
    refine (crash_plain g bb n cap cu sp s.bs torn w hn0 hn hd.c0 hd.c2 hd.hb hd.hl hg hc).mono fun e w' ⟨b, cap', sp', w1, h1, h2, h3, h4, he, hw⟩ => ?_
    refine ⟨w1.heap.size, b, he, h4.size, h1, ⟨.pointer none, cap', sp', ?_, ?_, ?_, rfl, rfl⟩, ?_⟩
    · rw [hw]; exact heap_alloc_new _ _
    · rw [hw, Below.heap_alloc _ _ _ (blk_lt h3)]
      show _ = some (Obj.cells (bytesV (crashBs s torn) ++ sp').toArray _ _)
      rw [hbs]; exact h3
    · show (crashBs s torn).length = _
      rw [hbs]; exact hd.hl
    · rw [hw]; exact h4.alloc h4.size _
  cases hc : s.c with
  | none =>
    have hd2 := hd
    rw [hc] at hd2
    refine plain (by simp [crashBs, hc]) (.inl hd2.hc)
  | some c =>
    obtain ⟨k, x⟩ := c
    have hd2 := hd
    rw [hc] at hd2
    obtain ⟨bc, rfl, hxl, hx⟩ := hd2.hc
    by_cases ht : 0 < torn
    · have hkn := hk k x hc
      have hm : ∃ m : Nat, m ≤ 64 ∧ 0 < m ∧ ((64 < torn ∧ m = 64) ∨ torn = (m : Int)) ∧ (min torn 64).toNat = m := by
        by_cases h64 : 64 < torn
        · exact ⟨64, by omega, by omega, .inl ⟨h64, rfl⟩, by omega⟩
        · exact ⟨torn.toNat, by omega, by omega, .inr (by omega), by omega⟩
      obtain ⟨m, hm1, hm2, hm3, hm4⟩ := hm
      refine (crash_torn g bb n cap k bc m sp s.bs x torn w hm1 hm2 hm3 hn0 hn hd.c0 hd.c2 hx hxl hkn hd.hb hd.hl hg).mono fun e w' ⟨b, cap', sp', w1, w2, h1, h2, h3, h4, he, hw2, hw⟩ => ?_
      have hbs : crashBs s torn = layAt s.bs k (x.take m) := by simp only [crashBs, hc]; rw [if_pos ht, hm4]
      have hne : w1.heap.size ≠ b := by have := blk_lt h3; omega
      have hsz : k * 64 + 64 ≤ n * 64 := by omega
      refine ⟨w1.heap.size, b, he, h4.size, h1, ⟨.pointer none, cap', sp', ?_, ?_, ?_, rfl, rfl⟩, ?_⟩
      · rw [hw, setRow_other _ _ _ _ hne, hw2]; exact heap_alloc_new _ _
      · rw [hw]
        show _ = some (Obj.cells (bytesV (crashBs s torn) ++ sp').toArray _ _)
        rw [hbs]
        refine setRow_heap _ _ (bytesV s.bs ++ sp').toArray _ _ _ ?_
        show w2.heap[b]? = _
        rw [hw2, Below.heap_alloc _ _ _ (blk_lt h3)]; exact h3
      · show (crashBs s torn).length = _
        rw [hbs]
        have := hd.hl
        simp [layAt]
        omega
      · rw [hw]
        exact below_setRow (((h4.alloc h4.size _).drew) |> (by rw [hw2]; exact ·)) h1 _
    · refine plain ?_ (.inr ⟨⟨_, rfl⟩, ht⟩)
      simp only [crashBs, hc]
      rw [if_neg ht]

theorem read_any {w : World} {g bb : Nat} {fu : Value} {n : Nat} {s : St} (hd : Disk w g bb fu n s) (i : Nat) (hi : i < n) :
    Calls Tryd.prog 11 #[.pointer (some ⟨g, 0, none⟩), .int .i64 i] w fun e w' => ∃ b cap sp, e = .returned (.tuple #[.slice (some ⟨b, 0, none⟩) 64 cap, .nilIface]) ∧ w.heap.size ≤ b ∧ 64 ≤ cap ∧ w'.heap[b]? = some (.cells (bytesV (blockAt s.bs i) ++ sp).toArray 5 (0, 0)) ∧ Below w.heap.size w w' := by
  obtain ⟨cu, cap, sp, hd⟩ := hd
  refine (read_yes g bb n cap sp s.bs i w hi hd.c0 hd.hb hd.hl).mono fun e w' ⟨v, he, hv, hB⟩ => ?_
  obtain ⟨b, cap', sp', hv2, h3, h4, h5⟩ := own_laid hv (by omega)
  exact ⟨b, cap', sp', by rw [he, hv2], h3, h4, h5, hB⟩

/-! ### A disk of the call's own -/
theorem new_any (n : Nat) (w : World) (h1 : 1 ≤ n) (hn : n ≤ 4096) :
    Calls Tryd.prog 6 #[.int .i64 n] w fun e w' => e = .returned (.tuple #[.pointer (some ⟨w.heap.size + 1, 0, none⟩), .nilIface]) ∧
      Disk w' (w.heap.size + 1) w.heap.size (.pointer none) n { bs := List.replicate (n * 64) 0, f := none, c := none, st := 0 } ∧ Below w.heap.size w w' := by
  refine (new_yes n w h1 hn).mono fun e w' ⟨he, hw⟩ => ⟨he, ?_, ?_⟩
  · rw [hw]; exact ⟨_, _, _, new_disk n w⟩
  · rw [hw]; exact ((Below.refl _ w).alloc (Nat.le_refl _) _).alloc (by simp) _

/-- A disk whose blocks all lie from B on; below B all is as it was in w0. -/
structure Mine (B : Nat) (w0 w : World) (g bb : Nat) (fu : Value) (n : Nat) (s : St) : Prop where
  disk : Disk w g bb fu n s
  below : Below B w0 w
  size : B ≤ w.heap.size
  hg : B ≤ g
  hbb : B ≤ bb
  hfu : ∀ k, fu = .pointer (some ⟨k, 0, none⟩) → B ≤ k

theorem below_only {B : Nat} {w a b : World} {S : Nat → Prop} (h : Below B w a) (hB : B ≤ a.heap.size) (k : Only S a b) (hs : ∀ k, k < B → ¬ S k) : Below B w b :=
  h.trans ⟨k.os, k.tape, k.output, k.size, fun i hi => k.block i (by omega) (hs i hi)⟩
theorem foot_ge {B g bb : Nat} {fu : Value} (hg : B ≤ g) (hbb : B ≤ bb) (hfu : ∀ k, fu = .pointer (some ⟨k, 0, none⟩) → B ≤ k) : ∀ k, k < B → ¬ footD g bb fu k := by
  intro k hk h
  rcases h with h | h | h
  · omega
  · omega
  · have := hfu k h; omega

theorem Mine.write {B : Nat} {w0 w : World} {g bb : Nat} {fu : Value} {n : Nat} {s : St} (h : Mine B w0 w g bb fu n s) (ho : StOk s) (hn : n ≤ 4096) (i : Int) (A : Option Addr) (b : List UInt8) (c : Nat) (hr : b.length ≤ 64 → BytesAt w A b) :
    Calls Tryd.prog 9 #[.pointer (some ⟨g, 0, none⟩), .int .i64 i, .slice A b.length c] w fun e w' => e = .returned (errV (wrC n s i b)) ∧ Mine B w0 w' g bb fu n (wrS n s i b) ∧ Only (footD g bb fu) w w' :=
  (write_any h.disk ho hn i A b c hr).mono fun e w' ⟨he, hd, hk⟩ => ⟨he, ⟨hd, below_only h.below h.size hk (foot_ge h.hg h.hbb h.hfu), Nat.le_trans h.size hk.size, h.hg, h.hbb, h.hfu⟩, hk⟩
theorem Mine.arm {B : Nat} {w0 w : World} {g bb : Nat} {fu : Value} {n : Nat} {s : St} (h : Mine B w0 w g bb fu n s) (k : Int) :
    Calls Tryd.prog 13 #[.pointer (some ⟨g, 0, none⟩), .int .i64 k] w fun e w' => e = .returned (errV (armC s k)) ∧ (∃ fu', Mine B w0 w' g bb fu' n (armS s k)) ∧ Only (footD g bb fu) w w' :=
  (arm_any h.disk k).mono fun e w' ⟨he, ⟨fu', hd, hf⟩, hk⟩ => ⟨he, ⟨fu', hd, below_only h.below h.size hk (foot_ge h.hg h.hbb h.hfu), Nat.le_trans h.size hk.size, h.hg, h.hbb, fun q hq => by
    rcases hf with rfl | rfl
    · exact h.hfu q hq
    · injection hq with hq; injection hq with hq; injection hq with hq _ _; rw [← hq]; exact h.size⟩, hk⟩
theorem Disk.below {w w' : World} {g bb : Nat} {fu : Value} {n : Nat} {s : St} (h : Disk w g bb fu n s) (hb : Below w.heap.size w w') : Disk w' g bb fu n s := by
  obtain ⟨cu, cap, sp, h⟩ := h
  exact ⟨cu, cap, sp, h.below hb⟩
theorem Mine.later {B : Nat} {w0 w w' : World} {g bb : Nat} {fu : Value} {n : Nat} {s : St} (h : Mine B w0 w g bb fu n s) (hb : Below w.heap.size w w') : Mine B w0 w' g bb fu n s :=
  ⟨h.disk.below hb, h.below.trans (hb.mono h.size), Nat.le_trans h.size hb.size, h.hg, h.hbb, h.hfu⟩
theorem mine_new (n : Nat) (w : World) (h1 : 1 ≤ n) (hn : n ≤ 4096) (B : Nat) (w0 : World) (hB : Below B w0 w) (hs : B ≤ w.heap.size) :
    Calls Tryd.prog 6 #[.int .i64 n] w fun e w' => ∃ g bb, e = .returned (.tuple #[.pointer (some ⟨g, 0, none⟩), .nilIface]) ∧
      Mine B w0 w' g bb (.pointer none) n { bs := List.replicate (n * 64) 0, f := none, c := none, st := 0 } ∧ Below w.heap.size w w' ∧ w.heap.size ≤ g ∧ w.heap.size ≤ bb :=
  (new_any n w h1 hn).mono fun _ _ ⟨he, hd, hb⟩ => ⟨_, _, he, ⟨hd, hB.trans (hb.mono hs), Nat.le_trans hs hb.size, by omega, hs, fun k hk => by cases hk⟩, hb, by omega, Nat.le_refl _⟩
theorem Mine.crash {B : Nat} {w0 w : World} {g bb : Nat} {fu : Value} {n : Nat} {s : St} (h : Mine B w0 w g bb fu n s) (hn0 : 0 < n) (hn : n ≤ 4096) (hk : ∀ k x, s.c = some (k, x) → k < n) (torn : Int) :
    Calls Tryd.prog 15 #[.pointer (some ⟨g, 0, none⟩), .int .i64 torn] w fun e w' => ∃ g' bb', e = .returned (.pointer (some ⟨g', 0, none⟩)) ∧ Mine B w0 w' g' bb' (.pointer none) n (crashS s torn) ∧ Below w.heap.size w w' ∧ w.heap.size ≤ g' ∧ w.heap.size ≤ bb' :=
  (crash_any h.disk hn0 hn hk torn).mono fun _ _ ⟨g', bb', he, h1, h2, hd, hb⟩ => ⟨g', bb', he, ⟨hd, h.below.trans (hb.mono h.size), Nat.le_trans h.size hb.size, by have := h.size; omega, by have := h.size; omega, fun k hk => by cases hk⟩, hb, h1, h2⟩

end Go.Proofs.YtlbfjnmhnpioaaaDoor
