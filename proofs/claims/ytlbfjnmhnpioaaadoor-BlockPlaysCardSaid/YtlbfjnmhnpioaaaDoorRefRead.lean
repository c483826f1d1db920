/-
  The document's Read.
-/
import Derived.Test.YtlbfjnmhnpioaaaDoorRefCrash
namespace Go.Proofs.YtlbfjnmhnpioaaaDoor
open Go.RowKit
set_option maxRecDepth 100000
set_option linter.unusedVariables false
set_option linter.unusedSimpArgs false

def Z64 : Array Value := (bytesV (List.replicate 64 0)).toArray
theorem zero_64 (w : World) : (zeroValue 31).run Tryd.prog w = .ok (.agg Z64) w := by kernel_rfl
/-- A write laid over a block. -/
def lay1 (n : Int) (out : List UInt8) (x : WV) : List UInt8 := if x.i = n then x.b.take x.laid.toNat ++ out.drop x.laid.toNat else out
def overlay (ws : List WV) (n : Int) : List UInt8 := ws.foldl (lay1 n) (List.replicate 64 0)
structure WOk (x : WV) : Prop where
  b : x.b.length = 64
  l0 : 0 ≤ x.laid
  l1 : x.laid ≤ 64
theorem len_lay1 (n : Int) (out : List UInt8) (x : WV) (h : out.length = 64) (hx : WOk x) : (lay1 n out x).length = 64 := by
  have := hx.b; have := hx.l0; have := hx.l1
  unfold lay1
  split
  · rw [List.length_append, List.length_take, List.length_drop]; omega
  · exact h
theorem len_fold (n : Int) : ∀ (ws : List WV) (out : List UInt8), out.length = 64 → (∀ x ∈ ws, WOk x) → (ws.foldl (lay1 n) out).length = 64
  | [], out, h, _ => h
  | x :: ws, out, h, hx => len_fold n ws _ (len_lay1 n out x h (hx x (List.mem_cons_self ..))) (fun y hy => hx y (List.mem_cons_of_mem _ hy))
theorem len_overlay (ws : List WV) (n : Int) (h : ∀ x ∈ ws, WOk x) : (overlay ws n).length = 64 := len_fold n ws _ (by simp) h
theorem overlay_snoc (ws : List WV) (n : Int) (j : Nat) (x : WV) (h : ws[j]? = some x) : overlay (ws.take (j + 1)) n = lay1 n (overlay (ws.take j) n) x := by
  unfold overlay
  rw [List.take_add_one, h]
  simp

/-- What stands at a place of a row whose parts have one length. -/
theorem flat_get : ∀ (ws : List WV) (j : Nat) (x : WV) (q : Nat) (v : Value), (∀ x ∈ ws, x.b.length = 64) → ws[j]? = some x → x.cells[q]? = some v → (wsC ws)[j * 66 + q]? = some v
  | [], j, x, q, v, _, h, _ => by simp at h
  | y :: ws, 0, x, q, v, hb, h, hq => by
    injection h with h
    subst h
    have hl := (List.getElem?_eq_some_iff.1 hq).1
    unfold wsC
    rw [List.flatMap_cons, Nat.zero_mul, Nat.zero_add, List.getElem?_append_left hl]
    exact hq
  | y :: ws, j + 1, x, q, v, hb, h, hq => by
    have hy := y.len (hb y (List.mem_cons_self ..))
    unfold wsC
    rw [List.flatMap_cons, List.getElem?_append_right (by omega), hy, show (j + 1) * 66 + q - 66 = j * 66 + q by omega]
    exact flat_get ws j x q v (fun z hz => hb z (List.mem_cons_of_mem _ hz)) (by simpa using h) hq
theorem LAt.opened {w : World} {s : Value} {ws : List WV} (h : LAt w s ws) (hb : ∀ x ∈ ws, x.b.length = 64) :
    ∃ p cap, s = .slice p ws.length cap ∧ ∀ j x, ws[j]? = some x → ∃ k, p = some ⟨k, 0, none⟩ ∧ ∀ q v, x.cells[q]? = some v → w.cell? ⟨k, j * 66 + q, none⟩ = some v := by
  rcases h.2 with ⟨rfl, h0⟩ | ⟨g, cap, cur, rfl, _⟩
  · exact ⟨none, 0, by rw [h0], fun j x hj => by rw [List.eq_nil_of_length_eq_zero h0] at hj; simp at hj⟩
  · refine ⟨some ⟨g, 0, none⟩, cap, rfl, fun j x hj => ⟨g, rfl, fun q v hq => ?_⟩⟩
    have := h.cells (g := g) rfl (j * 66 + q) v (flat_get ws j x q v hb hj hq)
    rw [addr_add, Nat.zero_add] at this
    exact this

theorem size_64 : (Tryd.prog.info? 31).map (·.size) = some 64 := by kernel_rfl
/-- 'return out': the block is loaded and stored into the result's. -/
theorem wpList_give64 {ops : Array Oper} {rest : List Oper} {o o2 : Oper} {a : Act} {w : World} {Q : Exit → Act → World → Prop} (bs old : List UInt8) (hb : bs.length = 64) (ho64 : old.length = 64) (g r t : Nat) (x p : Operand)
    (hD : w.heap[g]? = some (.cells (bytesV bs).toArray 31 (0, 0))) (hR : w.heap[r]? = some (.cells (bytesV old).toArray 31 (0, 0))) (hgd : o.guard = none) (ho : o.op = .load 31 x) (hd : o.dst = some t) (hx : a.eval x = .pointer (some ⟨g, 0, none⟩))
    (hgd2 : o2.guard = none) (ho2 : o2.op = .store 31 p (.tmp t)) (hp : (a.put (some t) (.agg (bytesV bs).toArray)).eval p = .pointer (some ⟨r, 0, none⟩)) (ht : t < a.tmps.size)
    (h : ∀ X, X.heap[r]? = some (.cells (bytesV bs).toArray 31 (0, 0)) → w.grownBy X (some r) → wpList Tryd.prog ops Q rest ((a.put (some t) (.agg (bytesV bs).toArray)).put o2.dst undef) X) : wpList Tryd.prog ops Q (o :: o2 :: rest) a w := by
  have hsz : (Tryd.prog.info? 31).map (·.size) = some (bytesV bs).length := by rw [len_bytesV, hb]; exact size_64
  refine wpList_load_at hgd 31 x ho g 0 hx (bytesV bs) _ (fun j v hj => by rw [Nat.zero_add, blk_cell hD, List.getElem?_toArray]; exact hj) Tryd.underlying31 rfl hsz ?_
  rw [hd]
  refine wpList_store_all hgd2 31 p (.tmp t) ho2 r (bytesV bs) hp ?_ 31 (bytesV old) hR hsz (by rw [len_bytesV, len_bytesV, hb, ho64]) (one_bytesV bs) ?_
  · simp [Act.put, Act.eval, ht]
  · exact h _ (setRow_heap _ _ _ _ _ _ hR) ⟨rfl, rfl, rfl, by simp, fun k _ hk => setRow_other w r k _ (fun e => hk (by rw [e]))⟩
theorem load_64 {w : World} {g : Nat} {bs : List UInt8} (hb : bs.length = 64) (h : w.heap[g]? = some (.cells (bytesV bs).toArray 31 (0, 0))) :
    (loadVar 31 ⟨g, 0, none⟩).run Tryd.prog w = .ok (.agg (bytesV bs).toArray) w :=
  run_loadVar_at (P := Tryd.prog) w g 0 31 (bytesV bs) _ (fun j v hj => by rw [Nat.zero_add, blk_cell h]; simpa using hj) Tryd.underlying31 rfl (by rw [len_bytesV, hb]; exact size_64)
/-- The first m bytes of one, the rest of the other. -/
def mixB (x out : List UInt8) (m : Nat) : List UInt8 := x.take m ++ out.drop m
theorem len_mixB (x out : List UInt8) (m : Nat) (hx : x.length = 64) (ho : out.length = 64) (hm : m ≤ 64) : (mixB x out m).length = 64 := by
  unfold mixB; rw [List.length_append, List.length_take, List.length_drop]; omega
theorem mixB_set (x out : List UInt8) (m : Nat) (hx : x.length = 64) (ho : out.length = 64) (hm : m < 64) (u : UInt8) (hu : x[m]? = some u) : (mixB x out m).set m u = mixB x out (m + 1) := by
  unfold mixB
  have h1 : (x.take m).length = m := by rw [List.length_take]; omega
  rw [List.set_append_right _ _ (by omega), h1, Nat.sub_self, List.take_add_one, hu]
  have h2 : out.drop m = out[m] :: out.drop (m + 1) := List.drop_eq_getElem_cons (by omega)
  rw [h2, List.set_cons_zero]
  simp only [Option.toList, List.append_assoc, List.cons_append, List.nil_append]
theorem bytesV_set (bs : List UInt8) (m : Nat) (u : UInt8) : (bytesV bs).set m (.int .u8 u.toNat) = bytesV (bs.set m u) := by
  simp [bytesV, List.map_set]

set_option maxRecDepth 100000 in
set_option maxHeartbeats 800000 in
theorem refRead_any (d : DV) (s : Value) (ws : List WV) (hb : d.r.b.length = 64) (n : Int) (hn : ws.length ≤ 100000) (hok : ∀ x ∈ ws, WOk x) (w : World) (hLs : LAt w s ws) :
    Calls Tryd.prog 12 #[.agg (d.cells s).toArray, .int .i64 n] w fun e w' => e = .returned (.agg (bytesV (overlay ws n)).toArray) ∧ Below w.heap.size w w' := by
  obtain ⟨p, cap, rfl, hat⟩ := hLs.opened (fun x hx => (hok x hx).b)
  have HAT := Lib.hid hat
  have HOK := Lib.hid hok
  clear hLs hat hok
  have hz := zero_64
  have hD0 := dat_new w d (.slice p ws.length cap)
  have hB0 : Below w.heap.size w (w.alloc (.cells (d.cells (.slice p ws.length cap)).toArray 35)) := (Below.refl _ w).alloc (Nat.le_refl _) _
  have hs0 : (w.alloc (.cells (d.cells (.slice p ws.length cap)).toArray 35)).heap.size = w.heap.size + 1 := by simp
  generalize (d.cells (.slice p ws.length cap)).toArray = C at hD0 hB0 hs0 ⊢
  go_enter Tryd.func12, Tryd.ntmps12
  go_upto_region 2 with fail
  clear hz
  have hB1 : Below w.heap.size w (((w.alloc (.cells C 35)).alloc (.cells Z64 31)).alloc (.cells Z64 31)) := (hB0.alloc hB0.size _).alloc (hB0.alloc hB0.size _).size _
  have hD1 : DAt (((w.alloc (.cells C 35)).alloc (.cells Z64 31)).alloc (.cells Z64 31)) w.heap.size d (.slice p ws.length cap) := (hD0.below ((Below.refl _ _).alloc (Nat.le_refl _) _)).below ((Below.refl _ _).alloc (Nat.le_refl _) _)
  have hR1 : (((w.alloc (.cells C 35)).alloc (.cells Z64 31)).alloc (.cells Z64 31)).heap[w.heap.size + 1]? = some (.cells Z64 31 (0, 0)) := by
    refine (heap_alloc_old _ _ (by simp)).trans ?_
    have := heap_alloc_new (w.alloc (.cells C 35)) (.cells Z64 31)
    rw [hs0] at this
    exact this
  have hO1 : (((w.alloc (.cells C 35)).alloc (.cells Z64 31)).alloc (.cells Z64 31)).heap[w.heap.size + 1 + 1]? = some (.cells Z64 31 (0, 0)) := by
    have := heap_alloc_new ((w.alloc (.cells C 35)).alloc (.cells Z64 31)) (.cells Z64 31)
    rw [show ((w.alloc (.cells C 35)).alloc (.cells Z64 31)).heap.size = w.heap.size + 1 + 1 by simp] at this
    exact this
  generalize (((w.alloc (.cells C 35)).alloc (.cells Z64 31)).alloc (.cells Z64 31)) = W1 at hB1 hD1 hR1 hO1 ⊢
  have c1 : W1.cell? ⟨w.heap.size, 1, none⟩ = some (.slice p ws.length cap) := by rw [hD1.cell]; rfl
  have HD1 := Lib.hid hD1
  have HR1 := Lib.hid hR1
  have HO1 := Lib.hid hO1
  clear hD0 hB0 hs0 hD1 hR1 hO1
  go_wp2_with fail
  go_loopw [11] (fun i' wq => ∃ j : Nat, j ≤ ws.length ∧ i' = .int .i64 j ∧ Below w.heap.size w wq ∧ Hid (DAt wq w.heap.size d (.slice p ws.length cap)) ∧ Hid (wq.heap[w.heap.size + 1]? = some (.cells Z64 31 (0, 0))) ∧ Hid (wq.heap[w.heap.size + 1 + 1]? = some (.cells (bytesV (overlay (ws.take j) n)).toArray 31 (0, 0)))) (fun i' _ => ws.length - (intOf i').toNat)
  case atStart => exact ⟨0, Nat.zero_le _, rfl, hB1, HD1, HR1, HO1⟩
  case round =>
    obtain ⟨j, hj, rfl, hq, hqD, hqR, hqO⟩ := hrel
    clear c1
    by_cases hlt : j < ws.length
    · obtain ⟨x, hx⟩ : ∃ x, ws[j]? = some x := ⟨_, List.getElem?_eq_getElem hlt⟩
      obtain ⟨k, rfl, hk⟩ := HAT.out j x hx
      have hxo : WOk x := HOK.out x (List.mem_of_getElem? hx)
      have hk' : ∀ q v, x.cells[q]? = some v → wr.cell? ⟨k, j * 66 + q, none⟩ = some v := fun q v hv => (hq.cell (World.block_lt_of_cell? w _ (hk q v hv))).trans (hk q v hv)
      have c1 : wr.cell? ⟨w.heap.size, 1, none⟩ = some (.slice (some ⟨k, 0, none⟩) ws.length cap) := by rw [hqD.out.cell]; rfl
      have x0 : wr.cell? ⟨k, j * 66, none⟩ = some (.int .i64 x.i) := hk' 0 _ rfl
      have HK := Lib.hid hk'
      have HKW : Hid (k < w.heap.size) := Lib.hid (World.block_lt_of_cell? w _ (hk 0 _ rfl))
      have HXO := Lib.hid hxo
      have HXX := Lib.hid hx
      clear hk hk' hxo hx
      have x65 : wr.cell? ⟨k, j * 66 + 65, none⟩ = some (.int .i64 x.laid) := HK.out 65 _ (by
        unfold WV.cells
        rw [List.getElem?_cons_succ, List.getElem?_append_right (by rw [len_bytesV, HXO.out.b]; omega), len_bytesV, HXO.out.b]
        rfl)
      by_cases hin : x.i = n
      · obtain ⟨m0, hm0⟩ : ∃ m0 : Nat, x.laid = (m0 : Int) := ⟨x.laid.toNat, by have := HXO.out.l0; omega⟩
        have hm64 : m0 ≤ 64 := by have := HXO.out.l1; omega
        have hnx : (overlay (ws.take (j + 1)) n) = mixB x.b (overlay (ws.take j) n) m0 := by
          rw [overlay_snoc ws n j x HXX.out, lay1, if_pos hin, hm0]
          rfl
        have hlo : (overlay (ws.take j) n).length = 64 := len_overlay _ _ (fun y hy => HOK.out y (List.mem_of_mem_take hy))
        obtain ⟨out, hout⟩ : ∃ out, out = overlay (ws.take j) n := ⟨_, rfl⟩
        rw [← hout] at hqO hnx hlo
        have HNX := Lib.hid hnx
        have HLO := Lib.hid hlo
        rw [hm0] at x65
        have HM0 := Lib.hid hm0
        clear hnx hlo hout hm0
        go_upto_region 7 with fail
        obtain ⟨wx, hwx⟩ : ∃ wx, wx = wr := ⟨_, rfl⟩
        subst hwx
        go_loopw [7] (fun i' wq => ∃ m : Nat, m ≤ m0 ∧ i' = .int .i64 m ∧ Below w.heap.size w wq ∧ Hid (DAt wq w.heap.size d (.slice (some ⟨k, 0, none⟩) ws.length cap)) ∧ Hid (wq.heap[w.heap.size + 1]? = some (.cells Z64 31 (0, 0))) ∧ Hid (wq.heap[w.heap.size + 1 + 1]? = some (.cells (bytesV (mixB x.b out m)).toArray 31 (0, 0))) ∧ Hid (∀ q v, x.cells[q]? = some v → wq.cell? ⟨k, j * 66 + q, none⟩ = some v)) (fun i' _ => m0 - (intOf i').toNat)
        case atStart => exact ⟨0, Nat.zero_le _, rfl, hq, hqD, hqR, hqO, HK⟩
        case round =>
          obtain ⟨m, hm, rfl, hq2, hqD2, hqR2, hqO2, hK2⟩ := hrel
          clear c1 x0 x65
          have c1 : wr.cell? ⟨w.heap.size, 1, none⟩ = some (.slice (some ⟨k, 0, none⟩) ws.length cap) := by rw [hqD2.out.cell]; rfl
          have x65 : wr.cell? ⟨k, j * 66 + 65, none⟩ = some (.int .i64 m0) := hK2.out 65 _ (by
            unfold WV.cells
            rw [List.getElem?_cons_succ, List.getElem?_append_right (by rw [len_bytesV, HXO.out.b]; omega), len_bytesV, HXO.out.b, ← HM0.out]
            rfl)
          by_cases hlm : m < m0
          · obtain ⟨u, hu⟩ : ∃ u, x.b[m]? = some u := ⟨_, List.getElem?_eq_getElem (by have := HXO.out.b; omega)⟩
            have xm : wr.cell? ⟨k, j * 66 + 1 + m, none⟩ = some (.int .u8 u.toNat) := by
              have := hK2.out (1 + m) (.int .u8 u.toNat) (by
                unfold WV.cells
                rw [show 1 + m = m + 1 by omega, List.getElem?_cons_succ, List.getElem?_append_left (by rw [len_bytesV, HXO.out.b]; omega)]
                simp [bytesV, hu])
              rw [show j * 66 + 1 + m = j * 66 + (1 + m) by omega]
              exact this
            have hlmx : (mixB x.b out m).length = 64 := len_mixB _ _ _ HXO.out.b HLO.out (by omega)
            obtain ⟨u0, hu0⟩ : ∃ u0, (mixB x.b out m)[m]? = some u0 := ⟨_, List.getElem?_eq_getElem (by omega)⟩
            have om : wr.cell? ⟨w.heap.size + 1 + 1, m, none⟩ = some (.int .u8 u0.toNat) := by
              rw [blk_cell hqO2.out, List.getElem?_toArray]
              simp [bytesV, hu0]
            have fm := blk_frozen hqO2.out m
            have HU := Lib.hid hu
            clear hu hu0 hlmx
            go_wp2_with fail
            go_roundw
            case rel =>
              refine ⟨m + 1, by omega, by go_num, hq2.setCell (by show w.heap.size ≤ w.heap.size + 1 + 1; omega) _, Lib.hid ?_, Lib.hid ?_, Lib.hid ?_, Lib.hid ?_⟩
              · exact (Below.heap_setCell _ ⟨w.heap.size + 1 + 1, m, none⟩ _ _ (by show w.heap.size ≠ w.heap.size + 1 + 1; omega)).trans hqD2.out
              · exact (Below.heap_setCell _ ⟨w.heap.size + 1 + 1, m, none⟩ _ _ (by show w.heap.size + 1 ≠ w.heap.size + 1 + 1; omega)).trans hqR2.out
              · have := blk_set hqO2.out m (.int .u8 u.toNat)
                rw [List.setIfInBounds_toArray, bytesV_set, mixB_set _ _ _ HXO.out.b HLO.out (by omega) u HU.out] at this
                exact this
              · intro q v hv
                have hc := hK2.out q v hv
                have hkw : k < w.heap.size := HKW.out
                refine (World.cell?_of_block (a := ⟨k, j * 66 + q, none⟩) ?_).trans hc
                exact Below.heap_setCell _ ⟨w.heap.size + 1 + 1, m, none⟩ _ _ (by show k ≠ w.heap.size + 1 + 1; omega)
            case measure => simp [intOf]; omega
          · have hmm : m = m0 := by omega
            subst hmm
            go_wp2_with fail
            go_roundw
            case rel => exact ⟨j + 1, by omega, by go_num, hq2, hqD2, hqR2, Lib.hid (by rw [HNX.out]; exact hqO2.out)⟩
            case measure => simp [intOf]; omega
      · have hin2 : (x.i == n) = false := by rw [beq_eq_false_iff_ne]; exact hin
        have hnx : (overlay (ws.take (j + 1)) n) = overlay (ws.take j) n := by
          rw [overlay_snoc ws n j x HXX.out, lay1, if_neg hin]
        have HNX := Lib.hid hnx
        clear hnx
        go_wp2_with fail
        go_roundw
        case rel => exact ⟨j + 1, by omega, by go_num, hq, hqD, hqR, Lib.hid (by rw [HNX.out]; exact hqO.out)⟩
        case measure => simp [intOf]; omega
    · have hjl : j = ws.length := by omega
      subst hjl
      rw [List.take_length] at hqO
      have hl64 : (overlay ws n).length = 64 := len_overlay ws n HOK.out
      go_upto_region 11 with fail
      refine wp_region_lit ?_
      refine wpList_give64 (overlay ws n) (List.replicate 64 0) hl64 (by simp) (w.heap.size + 1 + 1) (w.heap.size + 1) 43 (.tmp 5) (.tmp 4) hqO.out hqR.out rfl rfl rfl rfl rfl rfl rfl (by simp) ?_
      intro X hX hg
      have hld := load_64 hl64 hX
      have hb3 := hq.grown hg hq.size (fun k hk => by injection hk with hk; omega)
      have HLD := Lib.hid hld
      clear hld hX
      generalize hY : (bytesV (overlay ws n)).toArray = Y at HLD ⊢
      have HY := Lib.hid hY
      clear hY
      go_wp2_with fail
      exact bodyPost_ret (results_cell_only rfl _ _ X ⟨w.heap.size + 1, 0, none⟩ rfl (.agg Y) HLD.out) rfl ⟨by rw [HY.out], hb3⟩

end Go.Proofs.YtlbfjnmhnpioaaaDoor
