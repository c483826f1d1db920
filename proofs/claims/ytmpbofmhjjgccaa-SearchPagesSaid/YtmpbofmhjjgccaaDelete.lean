/-
  DeleteFunc over summaries.
-/
import Derived.Test.YtmpbofmhjjgccaaDel
namespace Go.Proofs.Ytmpbofmhjjgccaa
open Go.RowKit
set_option maxRecDepth 100000
set_option linter.unusedVariables false
set_option linter.unusedSimpArgs false

theorem types_ne' {w : World} {a b : Nat} {ca cb : Array Value} {ta tb : TypeId} (ha : w.heap[a]? = some (.cells ca ta (0, 0))) (hb : w.heap[b]? = some (.cells cb tb (0, 0))) (h : ta ≠ tb) : a ≠ b := by
  rintro rfl
  rw [ha] at hb
  injection hb with hb
  injection hb with _ hb _
  exact h hb
/-- What the closure reads. -/
structure QEnv (w : World) (qa : Nat) (q : QV) (p : Option Addr) (c : Nat) : Prop where
  qAt : QAt w qa q p c
  mAt : MaxAt w
  tAt : TypesAt w p q.types
theorem QEnv.below {w w' : World} {qa : Nat} {q : QV} {p : Option Addr} {c : Nat} (h : QEnv w qa q p c) (hb : Below w.heap.size w w') : QEnv w' qa q p c := ⟨h.qAt.below hb, h.mAt.below hb, h.tAt.below hb⟩
theorem QEnv.keep {w w' : World} {qa : Nat} {q : QV} {p : Option Addr} {c : Nat} (h : QEnv w qa q p c) {g : Nat} (hg : w.grownBy w' (some g)) (h1 : qa ≠ g) (h0 : g ≠ 0) (hp : q.types ≠ [] → ∀ b o, p = some ⟨b, o, none⟩ → b ≠ g) : QEnv w' qa q p c where
  qAt := (hg.block qa (blk_lt h.qAt) (fun e => h1 (Option.some.inj e))).trans h.qAt
  mAt := by
    obtain ⟨m, hm⟩ := h.mAt
    have hlt := World.block_lt_of_cell? w ⟨0, 0, none⟩ hm
    exact ⟨m, (World.cell?_of_block (a := ⟨0, 0, none⟩) (hg.block 0 hlt (fun e => h0 (Option.some.inj e).symm))).trans hm⟩
  tAt := by
    rcases h.tAt with h | ⟨b, o, rfl, h2⟩
    · exact .inl h
    · refine .inr ⟨b, o, rfl, fun j hj => ?_⟩
      have hlt := World.block_lt_of_cell? w ⟨b, o + j, none⟩ (h2 j hj)
      exact (World.cell?_of_block (a := ⟨b, o + j, none⟩) (hg.block b hlt (fun e => hp (by rintro h; rw [h] at hj; simp at hj) b o rfl (Option.some.inj e)))).trans (h2 j hj)

theorem sumC_app (a b : List SV) : sumC (a ++ b) = sumC a ++ sumC b := by unfold sumC; rw [List.flatMap_append]
theorem sumC_cons (x : SV) (l : List SV) : sumC (x :: l) = x.cells ++ sumC l := by unfold sumC; rw [List.flatMap_cons]
theorem sum_set (r : List SV) (sp : List Value) (i : Nat) (x : SV) (hi : i < r.length) : (sumC r ++ sp).take (i * 10) ++ x.cells ++ (sumC r ++ sp).drop (i * 10 + x.cells.length) = sumC (r.set i x) ++ sp := by
  have h1 : (sumC (r.take i)).length = i * 10 := by rw [len_sumC, List.length_take]; omega
  have hx : x.cells.length = 10 := rfl
  have hy : (r[i]).cells.length = 10 := rfl
  have e : sumC r = sumC (r.take i) ++ ((r[i]).cells ++ sumC (r.drop (i + 1))) := by
    rw [← sumC_cons, ← sumC_app]
    congr 1
    rw [← List.drop_eq_getElem_cons hi, List.take_append_drop]
  rw [e]
  have e2 : r.set i x = r.take i ++ x :: r.drop (i + 1) := List.set_eq_take_append_cons_drop .. |>.trans (by rw [if_pos hi])
  rw [e2, sumC_app, sumC_cons, List.append_assoc, List.append_assoc, List.append_assoc]
  rw [List.take_append_of_le_length (by omega), List.take_of_length_le (by omega)]
  rw [List.drop_append, List.drop_eq_nil_of_le (by omega), h1, hx, show i * 10 + 10 - i * 10 = 10 by omega, List.nil_append]
  rw [List.drop_append, List.drop_eq_nil_of_le (by omega), hy, Nat.sub_self, List.drop_zero]
  simp [List.append_assoc]

def zeroSV : SV := ⟨ByteArray.empty, ByteArray.empty, ByteArray.empty, ByteArray.empty, ByteArray.empty, ByteArray.empty, ByteArray.empty, 0, false, false⟩
theorem infoSum : (Try.prog.info? 42).map (fun i => (i.zero, i.size, i.bytes)) = some (some (.agg zeroSV.cells.toArray), 10, 128) := by kernel_rfl
theorem one_SV (x : SV) : ∀ v ∈ x.cells, v.oneCell' = true := by intro v hv; simp only [SV.cells, List.mem_cons, List.not_mem_nil, or_false] at hv; rcases hv with rfl | rfl | rfl | rfl | rfl | rfl | rfl | rfl | rfl | rfl <;> rfl
/-- clear of a row's part. -/
theorem run_clear_row {P : Program} (w : World) (t e ty : TypeId) (ht : P.underlying t = some (.slice e)) (i0 : TypeInfo) (hi : P.info? e = some i0) (z : Value) (hz : i0.zero = some z) (hall : ∀ v ∈ z.cells, v.oneCell' = true)
    (g o n c : Nat) (hn : 0 < n) (cur : Array Value) (tt : TypeId) (hg : w.heap[g]? = some (.cells cur tt (0, 0))) (hfit : o + n * z.cells.size ≤ cur.size) :
    (Builtin.clear_ #[t] ty #[.slice (some ⟨g, o, none⟩) n c]).run P w = .ok (.tuple #[]) (w.setRow g (cur.toList.take o ++ (Builtin.zeroCells z.cells n).toList ++ cur.toList.drop (o + n * z.cells.size)).toArray) := by
  have hsz : (Builtin.zeroCells z.cells n).toList.length = n * z.cells.size := by simp [Builtin.zeroCells]
  have h1 : ∀ v ∈ (Builtin.zeroCells z.cells n).toList, v.oneCell' = true := by
    intro v hv
    unfold Builtin.zeroCells at hv
    simp only [Array.toList_map, List.mem_map, Array.mem_toList_iff, Array.mem_range] at hv
    obtain ⟨i, hi, rfl⟩ := hv
    have hpos : 0 < z.cells.size := by
      rcases Nat.eq_zero_or_pos z.cells.size with h | h
      · rw [h] at hi; simp at hi
      · exact h
    have hlt := Nat.mod_lt i hpos
    rw [getElem!_pos z.cells _ hlt]
    exact hall _ (Array.getElem_mem hlt)
  have hst := run_storeCells_at P g o tt (Builtin.zeroCells z.cells n).toList 0 cur w hg (by rw [hsz]; simpa using hfit) h1
  simp only [Nat.add_zero, hsz] at hst
  have hzv : (zeroValue e).run P w = .ok z w := by simp [zeroValue, typeInfo, hi, hz]
  obtain ⟨m, rfl⟩ : ∃ m, n = m + 1 := ⟨n - 1, by omega⟩
  simp [Builtin.clear_, run_underlying ht, hzv, hst]

theorem wpList_clear_row {P : Program} {ops : Array Oper} {rest : List Oper} {o' : Oper} {a : Act} {w : World} {Q : Exit → Act → World → Prop} (hgd : o'.guard = none) (x : Operand) (t : TypeId) (ho : o'.op = .call { callee := .builtin .clear, args := #[x], argTypes := #[t] })
    (e : TypeId) (ht : P.underlying t = some (.slice e)) (i0 : TypeInfo) (hi : P.info? e = some i0) (z : Value) (hz : i0.zero = some z) (hall : ∀ v ∈ z.cells, v.oneCell' = true)
    (g o n c : Nat) (hx : a.eval x = .slice (some ⟨g, o, none⟩) n c) (hn : 0 < n) (cur : Array Value) (tt : TypeId) (hg : w.heap[g]? = some (.cells cur tt (0, 0))) (hfit : o + n * z.cells.size ≤ cur.size)
    (h : ∀ sp, wpList P ops Q rest (a.put o'.dst (.tuple #[])) (w.setRow g (cur.toList.take o ++ sp).toArray)) : wpList P ops Q (o' :: rest) a w := by
  refine wpList_plain hgd fun _ hK => ?_
  have hr := run_clear_row w t e o'.type ht i0 hi z hz hall g o n c hn cur tt hg hfit
  rw [List.append_assoc] at hr
  unfold Oper.wp execOp
  simp only [ho, resolve, invoke, builtin, Sem.run_bind, Sem.run_pure, Result.andThen_ok, List.map_toArray, List.map_cons, List.map_nil, hx, hr]
  exact hK _ _ (h _)

theorem alloc_setRow (w : World) (c d : Array Value) (t : TypeId) : (w.alloc (.cells c t)).setRow w.heap.size d = w.alloc (.cells d t) := by
  unfold World.setRow World.alloc
  simp only
  congr 1
  refine Array.ext (by simp) ?_
  intro i h1 h2
  rw [Array.getElem_modify]
  simp only [Array.getElem_push]
  by_cases e : i < w.heap.size
  · rw [if_neg (by omega)]; simp [e]
  · have e2 : i = w.heap.size := by simp at h2; omega
    subst e2
    simp
theorem wpList_store_new {P : Program} {ops : Array Oper} {rest : List Oper} {o : Oper} {a : Act} {w : World} {Q : Exit → Act → World → Prop} (hgd : o.guard = none) (ty : TypeId) (x y : Operand) (ho : o.op = .store ty x y)
    (w0 : World) (cur : Array Value) (hw : w = w0.alloc (.cells cur ty)) (cs : List Value) (hx : a.eval x = .pointer (some ⟨w0.heap.size, 0, none⟩)) (hy : a.eval y = .agg cs.toArray) (hi : (P.info? ty).map (·.size) = some cs.length)
    (hl : cur.size = cs.length) (h1 : ∀ v ∈ cs, v.oneCell' = true)
    (h : wpList P ops Q rest (a.put o.dst undef) (w0.alloc (.cells cs.toArray ty))) : wpList P ops Q (o :: rest) a w := by
  subst hw
  refine wpList_store_at hgd ty x y ho w0.heap.size 0 cs hx hy ty cur.toList (by simpa using heap_alloc_new w0 (.cells cur ty)) hi (by simp [hl]) h1 ?_
  have e : cur.toList.take 0 ++ cs ++ cur.toList.drop (0 + cs.length) = cs := by rw [List.drop_eq_nil_of_le (by simp [hl])]; simp
  rw [e, alloc_setRow]
  exact h

/-- What stands in the row behind j rounds. -/
structure DelAt (w : World) (g : Nat) (q : QV) (l : List SV) (sp : List Value) (i j : Nat) (r : List SV) : Prop where
  row : RowS w g r sp
  len : r.length = l.length
  pre : r.take i = (l.take j).filter (fitsB q)
  post : ∀ k, j ≤ k → r[k]? = l[k]?
  il : i = ((l.take j).filter (fitsB q)).length
theorem grow2 {a b c : World} {r : Option Nat} (h : a.grownBy b r) (k : b.grownBy c r) : a.grownBy c r :=
  ⟨k.os.trans h.os, k.tape.trans h.tape, k.output.trans h.output, Nat.le_trans h.size k.size, fun q hq hne => (k.block q (Nat.lt_of_lt_of_le hq h.size) hne).trans (h.block q hq hne)⟩
theorem grow_of_below {a b : World} {r : Option Nat} (h : Below a.heap.size a b) : a.grownBy b r := ⟨h.os, h.tape, h.output, h.size, fun q hq _ => h.block q hq⟩

theorem take_snoc {α : Type} (l : List α) (j : Nat) (x : α) (h : l[j]? = some x) : l.take (j + 1) = l.take j ++ [x] := by rw [List.take_add_one, h]; rfl
theorem DelAt.skip {w w' : World} {g : Nat} {q : QV} {l : List SV} {sp : List Value} {i j : Nat} {r : List SV} (h : DelAt w g q l sp i j r) (x : SV) (hx : l[j]? = some x) (hf : fitsB q x = false) (hr : RowS w' g r sp) : DelAt w' g q l sp i (j + 1) r := by
  have e : (l.take (j + 1)).filter (fitsB q) = (l.take j).filter (fitsB q) := by rw [take_snoc l j x hx, List.filter_append]; simp [hf]
  exact ⟨hr, h.len, by rw [e]; exact h.pre, fun k hk => h.post k (by omega), by rw [e]; exact h.il⟩
theorem DelAt.keep {w w' : World} {g : Nat} {q : QV} {l : List SV} {sp : List Value} {i j : Nat} {r : List SV} (h : DelAt w g q l sp i j r) (hij : i < j) (x : SV) (hx : l[j]? = some x) (hf : fitsB q x = true) (hr : RowS w' g (r.set i x) sp) : DelAt w' g q l sp (i + 1) (j + 1) (r.set i x) := by
  have e : (l.take (j + 1)).filter (fitsB q) = (l.take j).filter (fitsB q) ++ [x] := by rw [take_snoc l j x hx, List.filter_append]; simp [hf]
  have hjl := (List.getElem?_eq_some_iff.1 hx).1
  have hir : i < r.length := by rw [h.len]; omega
  refine ⟨hr, by rw [List.length_set]; exact h.len, ?_, fun k hk => ?_, by rw [e, List.length_append, ← h.il]; rfl⟩
  · rw [e, ← h.pre, take_snoc (r.set i x) i x (by rw [List.getElem?_set_self hir]), List.take_set_of_le (Nat.le_refl _)]
  · rw [List.getElem?_set_ne (by omega)]
    exact h.post k (by omega)

set_option maxHeartbeats 8000000 in
theorem deleteS_any (g : Nat) (l : List SV) (sp : List Value) (cap : Nat) (qa : Nat) (q : QV) (p : Option Addr) (c : Nat) (w : World) (hR : RowS w g l sp) (hn : l.length ≤ 1000) (hcap : l.length ≤ cap) (hE : QEnv w qa q p c) (hl : q.types.length ≤ 1000) (hq : q.term.size ≤ maxLen) (hx : ∀ x ∈ l, SmallS x)
    (h0 : g ≠ 0) (hp : q.types ≠ [] → ∀ b o, p = some ⟨b, o, none⟩ → b ≠ g) :
    Calls Try.prog 14 #[.slice (some ⟨g, 0, none⟩) l.length cap, .func (.func 16) #[] #[.pointer (some ⟨qa, 0, none⟩)]] w fun e w' =>
      e = .returned (.slice (some ⟨g, 0, none⟩) (l.filter (fitsB q)).length cap) ∧ (∃ sp', RowS w' g (l.filter (fitsB q)) sp') ∧ w.grownBy w' (some g) := by
  have hqg : qa ≠ g := types_ne' hE.qAt hR (by decide)
  have h1 := indexS_any g l sp cap qa q p c w hR hn hE.qAt hE.mAt hE.tAt hl hq hx
  have HR := Lib.hid hR
  have HE := Lib.hid hE
  have HX := Lib.hid hx
  have HP := Lib.hid hp
  have HL := Lib.hid hl
  have HQS := Lib.hid hq
  clear hR hE hx hp hl hq
  go_enter Try.func14, Try.ntmps14
  go_wp2_with fail
  refine h1.mono ?_
  rintro e w1 ⟨⟨i0, rfl, hcase⟩, hb1⟩
  clear h1
  rcases hcase with ⟨rfl, hall⟩ | ⟨k0, rfl, hk0, hpre, x0, hx0, hf0⟩
  · have hfl : l.filter (fitsB q) = l := List.filter_eq_self.2 (by simpa using hall)
    have HF := Lib.hid hfl
    clear hall hfl
    go_wp2_with fail
    go_ret
    exact ⟨by rw [HF.out]; rfl, ⟨sp, by rw [HF.out]; exact HR.out.below hb1⟩, grow_of_below hb1⟩
  · have hk1 : ((k0 : Int) == -1) = false := by rw [beq_eq_false_iff_ne]; omega
    have hD0 : DelAt w1 g q l sp k0 (k0 + 1) l := by
      have hft : (l.take (k0 + 1)).filter (fitsB q) = l.take k0 := by
        rw [List.take_add_one, hx0, List.filter_append, List.filter_eq_self.2 (by simpa using hpre)]
        simp [hf0]
      exact ⟨HR.out.below hb1, rfl, hft.symm, fun k _ => rfl, by rw [hft, List.length_take]; omega⟩
    have HD0 := Lib.hid hD0
    have hE1 := HE.out.below hb1
    have HE1 := Lib.hid hE1
    have hg1 : w.grownBy w1 (some g) := grow_of_below hb1
    clear hpre hx0 hf0 hD0 hE1
    go_wp2_with fail
    go_loopw [6, 5] (fun jv iv wq => ∃ (i j : Nat) (r : List SV), j ≤ l.length ∧ i < j ∧ jv = .int .i64 j ∧ iv = .int .i64 i ∧ Hid (DelAt wq g q l sp i j r) ∧ Hid (QEnv wq qa q p c) ∧ w.grownBy wq (some g)) (fun jv iv _ => l.length - (intOf jv).toNat)
    case atStart => exact ⟨k0, k0 + 1, l, by omega, by omega, by go_num, rfl, HD0, HE1, hg1⟩
    case round =>
      obtain ⟨i, j, r, hj, hij, rfl, rfl, hD, hEq, hgr⟩ := hrel
      clear HD0 HE1 hg1 hb1 hk1
      by_cases hlt : j < l.length
      · obtain ⟨x, hx⟩ : ∃ x, l[j]? = some x := ⟨_, List.getElem?_eq_getElem hlt⟩
        have hrj : r[j]? = some x := by rw [hD.out.post j (Nat.le_refl _)]; exact hx
        have hkk : ∀ m v, x.cells[m]? = some v → wr.cell? ⟨g, j * 10 + m, none⟩ = some v := fun m v hv => hD.out.row.cell j x hrj m v hv
        have h10 : (Try.prog.info? 42).map (·.size) = some x.cells.length := size_S
        have hbA : Below wr.heap.size wr (wr.alloc (.cells x.cells.toArray 42)) := (Below.refl _ wr).alloc (Nat.le_refl _) _
        have hEA := hEq.out.below hbA
        have h1 := del_any qa q p c x _ hEA.qAt hEA.mAt hEA.tAt HL.out HQS.out (HX.out x (List.mem_of_getElem? hx))
        have hkA : ∀ m v, x.cells[m]? = some v → (wr.alloc (.cells x.cells.toArray 42)).cell? ⟨wr.heap.size, 0 + m, none⟩ = some v := fun m v hv => by
          rw [Nat.zero_add, blk_cell (heap_alloc_new wr _), List.getElem?_toArray]; exact hv
        have hX1 : ∀ v ∈ x.cells, v.oneCell' = true := one_SV x
        have hlen10 : x.cells.length = 10 := rfl
        obtain ⟨X, hX⟩ : ∃ X, X = x.cells := ⟨_, rfl⟩
        have HXC := Lib.hid hX
        rw [← hX] at h1 hkk h10 hkA hX1 hbA hEA hlen10
        have HKK := Lib.hid hkk
        have H10 := Lib.hid h10
        have HKA := Lib.hid hkA
        have HX1 := Lib.hid hX1
        have HEA := Lib.hid hEA
        have HXX := Lib.hid hx
        have HRJ := Lib.hid hrj
        have HL10 := Lib.hid hlen10
        clear hkk h10 hkA hX1 hEA hx hrj hX hlen10
        cases hf : fitsB q x
        · rw [hf] at h1
          have HF := Lib.hid hf
          clear hf
          go_wp2_with (first | (refine wpList_load_at rfl 42 (.tmp 24) rfl g (j * 10) rfl X _ HKK.out Try.underlying42 rfl H10.out ?_) | (refine wpList_store_new rfl 42 (.tmp 7) (.tmp 25) rfl wr _ rfl X rfl rfl H10.out HL10.out.symm HX1.out ?_) | (refine wpList_load_at rfl 42 (.tmp 7) rfl wr.heap.size 0 rfl X _ HKA.out Try.underlying42 rfl H10.out ?_))
          refine h1.mono ?_
          rintro e w' ⟨rfl, hb1⟩
          clear h1
          have hb2 := hbA.trans (hb1.mono hbA.size)
          go_wp2_with fail
          go_roundw
          case rel => exact ⟨i, j + 1, r, by omega, by omega, by go_num, rfl, Lib.hid (hD.out.skip x HXX.out HF.out (hD.out.row.below hb2)), Lib.hid (hEq.out.below hb2), grow2 hgr (grow_of_below hb2)⟩
          case measure => simp [intOf]; omega
        · rw [hf] at h1
          have HF := Lib.hid hf
          clear hf
          go_wp2_with (first | (refine wpList_load_at rfl 42 (.tmp 24) rfl g (j * 10) rfl X _ HKK.out Try.underlying42 rfl H10.out ?_) | (refine wpList_store_new rfl 42 (.tmp 7) (.tmp 25) rfl wr _ rfl X rfl rfl H10.out HL10.out.symm HX1.out ?_) | (refine wpList_load_at rfl 42 (.tmp 7) rfl wr.heap.size 0 rfl X _ HKA.out Try.underlying42 rfl H10.out ?_))
          refine h1.mono ?_
          rintro e w' ⟨rfl, hb1⟩
          clear h1
          have hb2 := hbA.trans (hb1.mono hbA.size)
          have hkB : ∀ m v, X[m]? = some v → w'.cell? ⟨wr.heap.size, 0 + m, none⟩ = some v := fun m v hv => (hb1.cell (World.block_lt_of_cell? _ _ (HKA.out m v hv))).trans (HKA.out m v hv)
          have HKB := Lib.hid hkB
          have hrow := hD.out.row.below hb2
          have HROW := Lib.hid (show w'.heap[g]? = some (.cells (sumC r ++ sp).toArray 42 (0, 0)) from hrow)
          clear hkB hrow
          have hrl : i < r.length := by rw [hD.out.len]; omega
          have hset := sum_set r sp i x hrl
          rw [← HXC.out] at hset
          have hfit : i * 10 + X.length ≤ (sumC r ++ sp).length := by rw [HL10.out, List.length_append, len_sumC]; omega
          have HFIT := Lib.hid hfit
          have HSET := Lib.hid hset
          clear hset hfit
          go_wp2_with (first | (refine wpList_load_at rfl 42 (.tmp 7) rfl wr.heap.size 0 rfl X _ HKB.out Try.underlying42 rfl H10.out ?_) | (refine wpList_store_at rfl 42 (.tmp 33) (.tmp 32) rfl g (i * 10) X rfl rfl 42 _ HROW.out H10.out HFIT.out HX1.out ?_; rw [HSET.out]))
          go_roundw
          case rel =>
            have hgs : w'.grownBy (w'.setRow g (sumC (r.set i x) ++ sp).toArray) (some g) := ⟨rfl, rfl, rfl, by simp, fun k _ hk => setRow_other w' g k _ (fun e => hk (by rw [e]))⟩
            exact ⟨i + 1, j + 1, r.set i x, by omega, by omega, by go_num, by go_num, Lib.hid (hD.out.keep hij x HXX.out HF.out (setRow_heap w' g _ _ _ _ HROW.out)), Lib.hid ((hEq.out.below hb2).keep hgs hqg h0 HP.out), grow2 (grow2 hgr (grow_of_below hb2)) hgs⟩
          case measure => simp [intOf]; omega
      · have hjl : j = l.length := by omega
        subst hjl
        obtain ⟨zi, hzi, hz, hzs, hzb⟩ := info_parts infoSum
        have HZI := Lib.hid hzi
        have HZ := Lib.hid hz
        have hzo : ∀ v ∈ (Value.agg zeroSV.cells.toArray).cells, v.oneCell' = true := fun v hv => one_SV zeroSV v (by simpa [Value.cells] using hv)
        have hrow := hD.out.row
        have HROW := Lib.hid (show wr.heap[g]? = some (.cells (sumC r ++ sp).toArray 42 (0, 0)) from hrow)
        clear hzi hz hzs hzb hrow
        have hpos : 0 < l.length - i := by omega
        go_wp2_with (refine wpList_clear_row rfl (.tmp 38) 28 rfl 42 Try.underlying28 zi HZI.out _ HZ.out hzo g (i * 10) (l.length - i) (cap - i) rfl hpos _ _ HROW.out (by simp [Value.cells, len_sumC, hD.out.len, show zeroSV.cells.length = 10 from rfl]; omega) ?_; intro sp2)
        go_ret
        have hil : i = (l.filter (fitsB q)).length := by rw [hD.out.il, List.take_length]
        refine ⟨by rw [← hil]; rfl, ?_, grow2 hgr ⟨rfl, rfl, rfl, by simp, fun k _ hk => setRow_other wr g k _ (fun e => hk (by rw [e]))⟩⟩
        refine ⟨sp2, (setRow_heap wr g _ _ _ _ HROW.out).trans ?_⟩
        have hpre := hD.out.pre
        rw [List.take_length] at hpre
        have h1 : (sumC (r.take i)).length = i * 10 := by rw [len_sumC, List.length_take, hD.out.len]; omega
        have e : (sumC r ++ sp).take (i * 10) = sumC (l.filter (fitsB q)) := by
          rw [← hpre]
          have e1 : sumC r = sumC (r.take i) ++ sumC (r.drop i) := by rw [← sumC_app, List.take_append_drop]
          rw [e1, List.append_assoc, ← h1, List.take_left]
        rw [show (List.take (i * 10) (sumC r ++ sp) ++ sp2) = sumC (l.filter (fitsB q)) ++ sp2 by rw [e]]

set_option maxHeartbeats 4000000 in
theorem indexS_nil (qa : Nat) (w : World) :
    Calls Try.prog 21 #[.slice none 0 0, .func (.func 16) #[] #[.pointer (some ⟨qa, 0, none⟩)]] w fun e w' => e = .returned (.int .i64 (-1)) ∧ w' = w := by
  go_enter Try.func21, Try.ntmps21
  go_wp2_with fail
  go_loopw [8] (fun i wq => i = .int .i64 0 ∧ wq = w) (fun i _ => 0)
  case atStart => exact ⟨rfl, rfl⟩
  case round =>
    obtain ⟨rfl, rfl⟩ := hrel
    go_wp2_with fail
    go_ret
    exact ⟨rfl, rfl⟩

set_option maxHeartbeats 4000000 in
theorem deleteS_nil (qa : Nat) (w : World) :
    Calls Try.prog 14 #[.slice none 0 0, .func (.func 16) #[] #[.pointer (some ⟨qa, 0, none⟩)]] w fun e w' => e = .returned (.slice none 0 0) ∧ w' = w := by
  have h1 := indexS_nil qa w
  go_enter Try.func14, Try.ntmps14
  go_wp2_with fail
  refine h1.mono ?_
  rintro e w1 ⟨rfl, rfl⟩
  clear h1
  go_wp2_with fail
  go_ret
  exact ⟨rfl, rfl⟩

end Go.Proofs.Ytmpbofmhjjgccaa
