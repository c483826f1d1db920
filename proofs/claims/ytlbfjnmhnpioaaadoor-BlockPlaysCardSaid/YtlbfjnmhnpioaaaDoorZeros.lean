/-
  append(s, make([]byte, k)...) on a row of one's own.
-/
import Derived.Test.YtlbfjnmhnpioaaaDoorBlockActs
namespace Go.Proofs.YtlbfjnmhnpioaaaDoor
open Go.RowKit
set_option maxRecDepth 100000
set_option linter.unusedVariables false
set_option linter.unusedSimpArgs false

theorem zeroCells_u8 (k : Nat) : Builtin.zeroCells (Value.int .u8 0).cells k = (List.replicate k (Value.int .u8 0)).toArray := by
  have h : madeCells (Value.int .u8 0).cells k = (List.replicate k (Value.int .u8 0)).toArray := by
    refine Array.ext (by simp [madeCells, Value.cells]) ?_
    intro i h1 h2
    have : i % 1 = 0 := by omega
    simp [madeCells, Value.cells, this]
  refine Eq.trans ?_ h
  unfold Builtin.zeroCells madeCells
  simp [Value.cells]
theorem bytesV_zeros (k : Nat) : bytesV (List.replicate k 0) = List.replicate k (.int .u8 0) := by simp [bytesV]

theorem run_zeros_room (w : World) (ty : TypeId) (g sLen sCap k : Nat) (cur : Array Value) (hg : w.heap[g]? = some (.cells cur 5 (0, 0))) (hroom : sLen + k ≤ sCap) (hfit : sLen + k ≤ cur.size) (hk : k ≤ 64) :
    (Builtin.append_ #[39, 3] ty #[.slice (some ⟨g, 0, none⟩) sLen sCap, .int .i64 k]).run Tryd.prog w =
      .ok (.slice (some ⟨g, 0, none⟩) (sLen + k) sCap) (w.setRow g (cur.toList.take sLen ++ List.replicate k (Value.int .u8 0) ++ cur.toList.drop (sLen + k)).toArray) := by
  obtain ⟨i0, hi, hz0, hz1, hz2⟩ := info_parts Tryd.infoByte
  have hst := run_storeCells_at Tryd.prog g sLen 5 (List.replicate k (Value.int .u8 0)) 0 cur w hg (by simpa using hfit) (by simp [Value.oneCell'])
  simp only [Nat.add_zero, List.length_replicate] at hst
  have hw : IntKind.i64.wrap (k : Int) = k := by rw [IntKind.wrap_i64]; omega
  have hneg : ¬ ((k : Int) < 0) := by omega
  have h48 : ¬ (281474976710656 < (k : Int)) := by omega
  by_cases h0 : k = 0
  · subst h0
    have hw0 : IntKind.i64.wrap 0 = 0 := by rw [IntKind.wrap_i64]; rfl
    have hr0 : sLen ≤ sCap := hroom
    simp only [List.replicate_zero] at hst
    simp [Builtin.append_, run_underlying Tryd.underlying39, run_underlying Tryd.underlying3, sizeOf, typeInfo, zeroValue, hi, hz0, hz1, hz2, asInt, asIntOf, hw0, Addr.add_lit, hr0]
    simp only [List.append_nil, List.length_nil, Nat.add_zero, List.take_append_drop, Array.toArray_toList] at hst
    rw [hst]
    simp
  · simp [Builtin.append_, run_underlying Tryd.underlying39, run_underlying Tryd.underlying3, sizeOf, typeInfo, zeroValue, hi, hz0, hz1, hz2, asInt, asIntOf, hw, hneg, h48, h0, hroom, Addr.add_lit, zeroCells_u8, hst]

theorem cap_le_64 (c : Nat) (hc : c < 64) : Builtin.nextslicecap 64 c ≤ 128 := by
  unfold Builtin.nextslicecap
  split
  · omega
  · rw [if_pos (by omega)]; omega

theorem run_zeros_own (w : World) (ty : TypeId) (base n k : Nat) (v : Value) (bs : List UInt8) (hv : v ≠ .slice none 0 0) (ho : w.ownsRow base 5 1 v n (bytesV bs)) (hk : n + k = 64) (hbase : base ≤ w.heap.size) :
    ∃ b cap sp w', (Builtin.append_ #[39, 3] ty #[v, .int .i64 k]).run Tryd.prog w = .ok (.slice (some ⟨b, 0, none⟩) (n + k) cap) w' ∧ base ≤ b ∧ Below base w w' ∧
      w'.heap[b]? = some (.cells (bytesV (bs ++ List.replicate k 0) ++ sp).toArray 5 (0, 0)) := by
  obtain ⟨i0, hi, hz0, hz1, hz2⟩ := info_parts Tryd.infoByte
  obtain ⟨hl, ho⟩ := ho
  rw [len_bytesV, Nat.mul_one] at hl
  rcases ho with ⟨h, _⟩ | ⟨g, cap, cur, rfl, hbg, hg, hnc, hcm, hcs, htake⟩
  · exact absurd h hv
  · rw [Nat.mul_one] at hcs htake
    by_cases hroom : n + k ≤ cap
    · refine ⟨g, cap, cur.toList.drop (n + k), _, run_zeros_room w ty g n cap k cur hg hroom (by omega) (by omega), hbg, ?_, ?_⟩
      · exact ⟨rfl, rfl, rfl, by simp, fun i hi => setRow_other w g i _ (by omega)⟩
      · rw [setRow_heap w g cur _ _ _ hg, htake]
        simp only [bytesV, List.map_append, List.map_replicate]
        rfl
    · have hk0 : 0 < k := by omega
      have hold : (Builtin.firstCells i0.size n (.slice (some ⟨g, 0, none⟩) n cap)).run Tryd.prog w.drew = .ok (bytesV bs).toArray w.drew := by
        refine run_firstCells_some (P := Tryd.prog) w.drew i0.size n ⟨g, 0, none⟩ n cap (bytesV bs) (by rw [len_bytesV, hz1, hl]; omega) fun j u hu => ?_
        rw [addr_add, Nat.zero_add]
        rw [← htake, List.getElem?_take] at hu
        split at hu
        · rw [blk_cell (show w.drew.heap[g]? = _ from hg)]
          simpa using hu
        · cases hu
      have hr := Lib.run_append_grow_zeros (P := Tryd.prog) w 39 3 ty 5 i0 (.int .u8 0) .i64 .i64 Tryd.underlying39 Tryd.underlying3 hi hz0 (some ⟨g, 0, none⟩) n cap (bytesV bs) hold k hk0 (by omega) (by omega) (by omega) (by rw [hz2]; omega) (by rw [hz2, hk, Nat.mul_one]; exact Nat.le_trans (cap_le_64 cap (by omega)) (by omega))
      refine ⟨w.heap.size, _, List.replicate (grownCap w (n + k) cap 5 - (n + k)) (.int .u8 0), _, hr, hbase, ?_, ?_⟩
      · exact (((Below.refl _ w).mono hbase).drew).alloc (by exact hbase) _
      · rw [zeroCells_u8, zeroCells_u8]
        refine (heap_alloc_new w.drew _).trans ?_
        simp [bytesV]

theorem below_grown {B : Nat} {a w w' : World} {row : Option Nat} (h : Below B a w) (hB : B ≤ w.heap.size) (hg : w.grownBy w' row) (hr : ∀ k, row = some k → B ≤ k) : Below B a w' := h.grown hg hB hr

/-- append([]byte{}, b...) -/
theorem run_append_bytes (w : World) (ty : TypeId) (p : Option Addr) (b : List UInt8) (c : Nat) (h : BytesAt w p b) (hb : b.length ≤ 64) :
    ∃ v' w', (Builtin.append_ #[39, 39] ty #[.slice (some ⟨w.heap.size, 0, none⟩) 0 0, .slice p b.length c]).run Tryd.prog (w.alloc (.cells #[] 5)) = .ok v' w' ∧
      v' ≠ .slice none 0 0 ∧ w'.ownsRow w.heap.size 5 1 v' b.length (bytesV b) ∧ Below w.heap.size w w' := by
  obtain ⟨i0, hi, hz0, hz1, hz2⟩ := info_parts Tryd.infoByte
  have hb1 : Below w.heap.size w (w.alloc (.cells #[] 5)) := (Below.refl _ w).alloc (Nat.le_refl _) _
  have hown : (w.alloc (.cells #[] 5)).ownsRow w.heap.size 5 1 (.slice (some ⟨w.heap.size, 0, none⟩) 0 0) 0 [] :=
    ⟨rfl, .inr ⟨w.heap.size, 0, #[], rfl, Nat.le_refl _, heap_alloc_new _ _, Nat.le_refl _, Nat.zero_le _, rfl, rfl⟩⟩
  cases p with
  | none =>
    obtain rfl : b = [] := by
      rcases h with h | ⟨_, h, _⟩
      · exact h
      · cases h
    refine ⟨.slice (some ⟨w.heap.size, 0, none⟩) 0 0, _, ?_, by simp, hown, hb1⟩
    have hst := run_storeCells_at Tryd.prog w.heap.size 0 5 [] 0 #[] (w.alloc (.cells #[] 5)) (heap_alloc_new _ _) (Nat.le_refl _) (by simp)
    simp only [Nat.add_zero, List.take_nil, List.append_nil, List.drop_nil, List.length_nil] at hst
    have hse : (w.alloc (.cells #[] 5)).setRow w.heap.size [].toArray = w.alloc (.cells #[] 5) := setRow_self _ _ _ 5 (0, 0) (heap_alloc_new _ _)
    rw [hse] at hst
    simp [Builtin.append_, run_underlying Tryd.underlying39, sizeOf, typeInfo, hi, Builtin.lenOf, Builtin.firstCells, Addr.add_lit, hst]
  | some a =>
    obtain ⟨v', w', hr, h2, h3, h4⟩ := run_append_own (P := Tryd.prog) (w.alloc (.cells #[] 5)) w.heap.size 39 ty 5 i0 (.int .u8 0) 1 1 Tryd.underlying39 hi hz0 hz1 hz2 rfl (by decide)
      (.slice (some ⟨w.heap.size, 0, none⟩) 0 0) 0 [] hown a b.length c (bytesV b) (by rw [len_bytesV, Nat.mul_one]) (fun j u hj => by
        rcases h.below hb1 with h0 | ⟨ad, h0, h1⟩
        · subst h0
          simp [bytesV] at hj
        · injection h0 with h0
          subst h0
          exact h1 j u hj) (one_bytesV _) (by unfold maxLen; omega) (by omega) (by simp)
    refine ⟨v', w', hr, fun e => by have := h4.1 e; simp at this, by simpa using h2, hb1.grown h3 (by simp) (fun k hk => ?_)⟩
    simp [Value.ownBlock] at hk
    omega

/-- string(append(append([]byte{}, b...), make([]byte, 64-len(b))...)): both steps. -/
theorem run_want (w : World) (ty ty2 : TypeId) (p : Option Addr) (b : List UInt8) (c : Nat) (h : BytesAt w p b) (hb : b.length ≤ 64) :
    ∃ v1 w1 g cap sp w2, (Builtin.append_ #[39, 39] ty #[.slice (some ⟨w.heap.size, 0, none⟩) 0 0, .slice p b.length c]).run Tryd.prog (w.alloc (.cells #[] 5)) = .ok v1 w1 ∧
      (Builtin.append_ #[39, 3] ty2 #[v1, .int .i64 ((64 : Int) - b.length)]).run Tryd.prog w1 = .ok (.slice (some ⟨g, 0, none⟩) 64 cap) w2 ∧ w.heap.size ≤ g ∧ Below w.heap.size w w2 ∧
      w2.heap[g]? = some (.cells (bytesV (fill64 b) ++ sp).toArray 5 (0, 0)) := by
  obtain ⟨v1, w1, h1, h2, h3, h4⟩ := run_append_bytes w ty p b c h hb
  obtain ⟨g, cap, sp, w2, h5, h6, h7, h8⟩ := run_zeros_own w1 ty2 w.heap.size b.length (64 - b.length) v1 b h2 h3 (by omega) h4.size
  rw [show b.length + (64 - b.length) = 64 by omega, show (((64 - b.length : Nat) : Int)) = 64 - (b.length : Int) by omega] at h5
  exact ⟨v1, w1, g, cap, sp, w2, h1, h5, h6, h4.trans h7, h8⟩

end Go.Proofs.YtlbfjnmhnpioaaaDoor
