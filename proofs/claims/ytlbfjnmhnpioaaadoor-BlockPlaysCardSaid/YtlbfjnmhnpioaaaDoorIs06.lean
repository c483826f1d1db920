/-
  Is a disk the document's?
-/
import Derived.Test.YtlbfjnmhnpioaaaDoorRefRead
import Derived.Test.YtlbfjnmhnpioaaaDoorTxt
import Derived.BigQuiet
namespace Go.Proofs.YtlbfjnmhnpioaaaDoor
open Go.RowKit
set_option maxRecDepth 100000
set_option linter.unusedVariables false
set_option linter.unusedSimpArgs false

/-- A disk and the document's: the same. -/
structure Rel (n : Nat) (s : St) (d : DV) (ws : List WV) : Prop where
  nn : d.n = (n : Int)
  bl : s.bs.length = n * 64
  dead : d.dead = s.c.isSome
  steps : d.steps = s.st
  rb : d.r.b.length = 64
  ok : ∀ x ∈ ws, WOk x
  at' : ∀ i, i < n → blockAt s.bs i = overlay ws i
  fuse : d.fuse = s.f.getD (-1)
  cut : ∀ k x, s.c = some (k, x) → d.r = ⟨k, x, 64⟩ ∧ k < n
  none' : s.c = none → d.r.i = -1

theorem store_new64 {ops : Array Oper} {rest : List Oper} {o : Oper} {a : Act} {w : World} {Q : Exit → Act → World → Prop} (bs : List UInt8) (hb : bs.length = 64) (hgd : o.guard = none) (x y : Operand) (ho : o.op = .store 31 x y)
    (hx : a.eval x = .pointer (some ⟨w.heap.size, 0, none⟩)) (hy : a.eval y = .agg (bytesV bs).toArray)
    (h : ∀ X, X.heap[w.heap.size]? = some (.cells (bytesV bs).toArray 31 (0, 0)) → Below w.heap.size w X → X.heap.size = w.heap.size + 1 → wpList Tryd.prog ops Q rest (a.put o.dst undef) X) : wpList Tryd.prog ops Q (o :: rest) a (w.alloc (.cells Z64 31)) := by
  refine wpList_store_all hgd 31 x y ho w.heap.size (bytesV bs) hx hy 31 (bytesV (List.replicate 64 0)) (heap_alloc_new _ _) (by rw [len_bytesV, hb]; exact size_64) (by rw [len_bytesV, len_bytesV, hb]; simp) (one_bytesV bs) ?_
  rw [setRow_new]
  exact h _ (heap_alloc_new _ _) ((Below.refl _ w).alloc (Nat.le_refl _) _) (by simp)

set_option maxRecDepth 100000 in
set_option maxHeartbeats 800000 in
theorem is6_any {w : World} {g bb : Nat} {fu : Value} {n : Nat} {st : St} (h : Disk w g bb fu n st) (d : DV) (s : Value) (ws : List WV) (hr : Rel n st d ws) (hn : n ≤ 4096) (hw : ws.length ≤ 100000) (hL : LAt w s ws) :
    Calls Tryd.prog 17 #[.pointer (some ⟨g, 0, none⟩), .agg (d.cells s).toArray] w fun e w' => e = .returned (.bool true) ∧ Below w.heap.size w w' := by
  have hb := hr.rb
  have hB0 : Below w.heap.size w (w.alloc (.cells (d.cells s).toArray 35)) := (Below.refl _ w).alloc (Nat.le_refl _) _
  have hD0 := dat_new w d s
  have c0 := hD0.cell 0
  rw [d.get0 s, hr.nn] at c0
  have c3 := hD0.cell 68
  rw [d.get68 s hb, hr.dead] at c3
  have c5 := hD0.cell 70
  rw [d.get70 s hb, hr.steps] at c5
  have hk0 := h.below hB0
  have HR := Lib.hid hr
  have HL := Lib.hid hL
  have h71 := sizeD d s hb
  generalize hC : d.cells s = C at hB0 hD0 c0 c3 c5 hk0 h71 ⊢
  generalize hW1 : w.alloc (.cells C.toArray 35) = W1 at hB0 hD0 c0 c3 c5 hk0
  have hkm : ∀ m, Disk (W1.drewN m) g bb fu n st := fun m => hk0.below ⟨rfl, rfl, rfl, Nat.le_refl _, fun _ _ => rfl⟩
  have h1 : ∀ m, Calls Tryd.prog 24 #[.pointer (some ⟨g, 0, none⟩)] (W1.drewN m) fun e w' => e = .returned (.int .i64 n) ∧ w' = W1.drewN m := fun m => (hkm m).len.mono fun _ _ h => ⟨h.1, h.2.symm⟩
  have h2 : ∀ m, Calls Tryd.prog 21 #[.pointer (some ⟨g, 0, none⟩)] (W1.drewN m) fun e w' => e = .returned (.bool st.c.isSome) ∧ w' = W1.drewN m := fun m => (hkm m).dead.mono fun _ _ h => ⟨h.1, h.2.symm⟩
  have h3 : ∀ m, Calls Tryd.prog 25 #[.pointer (some ⟨g, 0, none⟩)] (W1.drewN m) fun e w' => e = .returned (.int .i64 st.st) ∧ w' = W1.drewN m := fun m => (hkm m).steps.mono fun _ _ h => ⟨h.1, h.2.symm⟩
  have H1 := Lib.hid h1
  have H2 := Lib.hid h2
  have H3 := Lib.hid h3
  have HD0 := Lib.hid hD0
  have HKM := Lib.hid hkm
  have HC := Lib.hid hC
  clear h1 h2 h3 hkm hr hL hD0 hC
  go_enter Tryd.func17, Tryd.ntmps17
  go_upto_region 1 with fail
  have HW1 := Lib.hid hW1
  clear hW1
  generalize hcs : st.c.isSome = cs at H2 c3
  have HCS := Lib.hid hcs
  clear hcs
  go_quiet (first | (go_at_call 24; exact Calls.quiet_of_same (H1.out _)) | (go_at_call 21; exact Calls.quiet_of_same (H2.out _)) | (go_at_call 25; exact Calls.quiet_of_same (H3.out _)))
  obtain ⟨W2, hW2⟩ : ∃ W2, W2 = W1.drewN nq := ⟨_, rfl⟩
  have hB2 : Below w.heap.size w W2 := by rw [hW2]; exact ⟨hB0.os, hB0.tape, hB0.output, hB0.size, hB0.block⟩
  have hD2 : DAt W2 w.heap.size d s := by rw [hW2]; exact HD0.out
  have c0 : W2.cell? ⟨w.heap.size, 0, none⟩ = some (.int .i64 n) := by rw [hD2.cell, d.get0 s, HR.out.nn]
  rw [← hW2]
  have HD2 := Lib.hid hD2
  have HDK := Lib.hid h
  have hBw : Below w.heap.size w W2 := hB2
  have H71 := Lib.hid h71
  clear hW2 hD2 H1 H2 H3 HKM HD0 HW1 hk0 hB0 h h71
  obtain ⟨lim, hlim⟩ : ∃ lim, lim = min n 40 := ⟨_, rfl⟩
  have hlim2 : (if (40 : Int) < (n : Int) then (40 : Int) else n) = (lim : Int) := by rw [hlim]; split <;> omega
  go_wp2_with fail
  clear hlim2 hlim
  go_loopw [35] (fun i' wq => ∃ j : Nat, j ≤ min n 40 ∧ i' = .int .i64 j ∧ Below w.heap.size w wq ∧ Hid (DAt wq w.heap.size d s)) (fun i' _ => min n 40 - (intOf i').toNat)
  case atStart => exact ⟨0, Nat.zero_le _, rfl, hB2, HD2⟩
  case round =>
    obtain ⟨j, hj, rfl, hq, hqD⟩ := hrel
    clear c0
    by_cases hlt : j < min n 40
    · have hjn : j < n := by omega
      have h5 := read_any (HDK.out.below hq) j hjn
      go_wp2_with fail
      refine h5.mono ?_
      rintro e w5 ⟨b, cap, sp, rfl, hb5, hcap, hx5, hB5⟩
      have hq5 : Below w.heap.size w w5 := hq.trans (hB5.mono hq.size)
      have hL5 : LAt w5 s ws := by
        refine row_keep HL.out fun k hk => ?_
        obtain ⟨_, cur, hc⟩ := row_at HL.out hk
        exact hq5.block k (blk_lt hc)
      have h7 := refRead_any d s ws hb j hw HR.out.ok w5 hL5
      have hD5 := hqD.out.below hB5
      have hkk : ∀ q v, C[q]? = some v → w5.cell? ⟨w.heap.size, 0 + q, none⟩ = some v := fun q v hv => by rw [Nat.zero_add, hD5.cell, HC.out]; exact hv
      rw [HC.out] at h7
      have hov : overlay ws j = blockAt st.bs j := (HR.out.at' j hjn).symm
      rw [hov] at h7
      have hbl := len_blockAt st.bs j n HR.out.bl hjn
      have HKK := Lib.hid hkk
      have HD5 := Lib.hid hD5
      have HX5 := Lib.hid hx5
      have HBL := Lib.hid hbl
      have hz := zero_64
      clear h5 hkk hL5 hD5 hx5 hov hbl
      go_wp2_with (refine wpList_load_at rfl 35 (.tmp 3) rfl w.heap.size 0 rfl C _ HKK.out Tryd.underlying35 rfl H71.out ?_)
      refine h7.mono ?_
      rintro e w7 ⟨rfl, hB7⟩
      have hx7 := (hB7.block b (blk_lt HX5.out)).trans HX5.out
      have HX7 := Lib.hid hx7
      clear h7 hx7 HX5
      generalize hY : (bytesV (blockAt st.bs j)).toArray = Y
      have HY := Lib.hid hY
      clear hY
      go_wp2_with (refine store_new64 (blockAt st.bs j) HBL.out rfl (.tmp 8) (.tmp 46) rfl rfl (by rw [HY.out]; rfl) ?_)
      intro X hX hBX hSX
      have hx8 := (hBX.block b (blk_lt HX7.out)).trans HX7.out
      have k1 : ∀ m, (convert 39 9 (.slice (some ⟨b, 0, none⟩) 64 cap)).run Tryd.prog (X.drewN m) = .ok (.string (txt st.bs j)) (X.drewN m) := fun m => str_block (w := X.drewN m) cap j HBL.out hx8
      have k2 : ∀ m, (convert 39 9 (.slice (some ⟨w7.heap.size, 0, none⟩) 64 64)).run Tryd.prog (X.drewN m) = .ok (.string (txt st.bs j)) (X.drewN m) := fun m => str_block (w := X.drewN m) (sp := []) 64 j HBL.out (by rw [List.append_nil]; exact hX)
      have hBX2 : Below w5.heap.size w5 X := hB7.trans (hBX.mono hB7.size)
      have hq7 : Below w.heap.size w X := hq5.trans (hBX2.mono hq5.size)
      have hD8 := HD5.out.below hBX2
      have HD8 := Lib.hid hD8
      clear hx8 hX hD8
      generalize txt st.bs j = tx at k1 k2
      go_upto_region 8 with fail
      go_quiet (fail)
      have hq9 : Below w.heap.size w (X.drewN nq) := ⟨hq7.os, hq7.tape, hq7.output, hq7.size, hq7.block⟩
      have HD9 : Hid (DAt (X.drewN nq) w.heap.size d s) := HD8
      generalize X.drewN nq = X9 at hq9 HD9 ⊢
      clear k1 k2
      go_wp2_with fail
      go_roundw
      case rel => exact ⟨j + 1, by omega, by go_num, hq9, HD9⟩
      case measure => simp [intOf]; omega
    · have hjl : j = min n 40 := by omega
      go_wp2_with fail
      go_ret
      exact ⟨rfl, hq⟩

end Go.Proofs.YtlbfjnmhnpioaaaDoor
