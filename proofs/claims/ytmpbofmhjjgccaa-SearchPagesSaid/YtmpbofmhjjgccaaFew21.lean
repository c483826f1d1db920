/-
  few.
-/
import Derived.Test.YtmpbofmhjjgccaaConv21
namespace Go.Proofs.Ytmpbofmhjjgccaa
open Go.RowKit
set_option maxRecDepth 100000
set_option linter.unusedVariables false
set_option linter.unusedSimpArgs false

def shortB (x : SV) : Bool := decide (x.name.size + x.topic.size + x.alias.size ≤ 300)
def fewB (l : List SV) (q : QV) : Bool := l.all shortB && (decide (l.length ≤ 80) && decide (q.term.size ≤ 100) && decide (q.types.length ≤ 10))

set_option maxHeartbeats 8000000 in
theorem few_any (p : Option Addr) (l : List SV) (c : Nat) (q : QV) (pq : Option Addr) (cq : Nat) (w : World) (h : SVsAt w p l) (hx : ∀ x ∈ l, SV.Fits x) (hl : l.length ≤ maxLen) :
    Calls Try.prog 6 #[.slice p l.length c, .agg (q.cells pq cq).toArray] w (SameV (.bool (fewB l q)) w) := by
  have HAt := Lib.hid h
  have HF := Lib.hid hx
  have hl2 : l.length ≤ 9223372036854775807 := by unfold maxLen at hl; omega
  unfold QV.cells
  have hb0 : Below w.heap.size w (w.alloc (.cells #[.string q.term, .slice pq q.types.length cq, .int .i64 q.limit, .int .i64 q.since] 25)) := (Below.refl _ w).alloc (Nat.le_refl _) _
  have hQ0 := heap_alloc_new w (.cells #[.string q.term, .slice pq q.types.length cq, .int .i64 q.limit, .int .i64 q.since] 25)
  clear h hx hl
  go_enter Try.func6, Try.ntmps6
  go_wp2_with fail
  generalize w.alloc (.cells #[.string q.term, .slice pq q.types.length cq, .int .i64 q.limit, .int .i64 q.since] 25) = W0 at hb0 hQ0 ⊢
  have HB0 := Lib.hid hb0
  have HQ0 := Lib.hid hQ0
  clear hb0 hQ0
  go_loopw [9] (fun i wq => ∃ k : Nat, k ≤ l.length ∧ i = .int .i64 k ∧ Below W0.heap.size W0 wq ∧ Hid ((l.take k).all shortB = true)) (fun i _ => l.length - (intOf i).toNat)
  case atStart => exact ⟨0, Nat.zero_le _, rfl, Below.refl _ _, Lib.hid (by simp)⟩
  case round =>
    obtain ⟨k, hk, rfl, hb, hall⟩ := hrel
    have hbw := HB0.out.trans (hb.mono HB0.out.size)
    by_cases hlt : k < l.length
    · obtain ⟨x, hx⟩ : ∃ x, l[k]? = some x := ⟨_, List.getElem?_eq_getElem hlt⟩
      obtain ⟨a, rfl, cs, hcs, hcell⟩ := (HAt.out.below hbw) k x hx
      have e : cs = x.cells := hcs
      subst e
      have hfit := HF.out x (List.mem_of_getElem? hx)
      have s1 := hfit.name
      have s2 := hfit.topic
      have s3 := hfit.alias
      unfold reachBytes at s1 s2 s3
      have h300 : shortB x = decide (x.name.size + x.topic.size + x.alias.size ≤ 300) := rfl
      have hsn : (l.take (k + 1)).all shortB = shortB x := by
        rw [take_snoc l k x hx, List.all_append, hall.out]
        simp
      have HC := Lib.hid hcell
      have HX := Lib.hid hx
      have H3 := Lib.hid h300
      have HSN := Lib.hid hsn
      have h10 : (Try.prog.info? 39).map (·.size) = some x.cells.length := size_S15
      have H10 := Lib.hid h10
      have hbA := hbw.alloc hbw.size (.cells x.cells.toArray 39)
      have hbB := hb.alloc hb.size (.cells x.cells.toArray 39)
      have HBA := Lib.hid hbA
      have HBB := Lib.hid hbB
      have hA := heap_alloc_new wr (.cells x.cells.toArray 39)
      have k2 : (wr.alloc (.cells x.cells.toArray 39)).cell? ⟨wr.heap.size, 2, none⟩ = some (.string x.name) := by rw [blk_cell hA]; rfl
      have k3 : (wr.alloc (.cells x.cells.toArray 39)).cell? ⟨wr.heap.size, 3, none⟩ = some (.string x.topic) := by rw [blk_cell hA]; rfl
      have k4 : (wr.alloc (.cells x.cells.toArray 39)).cell? ⟨wr.heap.size, 4, none⟩ = some (.string x.alias) := by rw [blk_cell hA]; rfl
      clear hcs hcell hx h300 hsn h10 hbA hbB hA
      by_cases hs : x.name.size + x.topic.size + x.alias.size ≤ 300
      · go_wp2_with (first | (refine wpList_load_adr rfl 39 (.tmp 11) rfl (a.add (k * 10)) rfl x.cells _ HC.out Try.underlying39 rfl H10.out ?_) | (refine wpList_store_new rfl 39 (.tmp 6) (.tmp 12) rfl wr _ rfl x.cells rfl rfl H10.out rfl (one_SV x) ?_))
        go_roundw
        case rel => exact ⟨k + 1, by omega, by go_num, HBB.out, Lib.hid (by rw [HSN.out, H3.out]; exact decide_eq_true hs)⟩
        case measure => simp [intOf]; omega
      · go_wp2_with (first | (refine wpList_load_adr rfl 39 (.tmp 11) rfl (a.add (k * 10)) rfl x.cells _ HC.out Try.underlying39 rfl H10.out ?_) | (refine wpList_store_new rfl 39 (.tmp 6) (.tmp 12) rfl wr _ rfl x.cells rfl rfl H10.out rfl (one_SV x) ?_))
        go_ret
        refine ⟨?_, HBA.out⟩
        have : fewB l q = false := by
          unfold fewB
          rw [Bool.and_eq_false_iff]
          left
          rw [List.all_eq_false]
          exact ⟨x, List.mem_of_getElem? HX.out, by rw [H3.out]; simpa using hs⟩
        rw [this]
        rfl
    · have hkz : k = l.length := by omega
      subst hkz
      have q0 : wr.cell? ⟨w.heap.size, 0, none⟩ = some (.string q.term) := by rw [blk_cell ((hb.block _ (blk_lt HQ0.out)).trans HQ0.out)]; rfl
      have q1 : wr.cell? ⟨w.heap.size, 1, none⟩ = some (.slice pq q.types.length cq) := by rw [blk_cell ((hb.block _ (blk_lt HQ0.out)).trans HQ0.out)]; rfl
      by_cases h80 : l.length ≤ 80 <;> by_cases h100 : q.term.size ≤ 100 <;> by_cases ht : q.types.length ≤ 10
      all_goals
        go_wp2_with fail
        go_ret
        refine ⟨?_, hbw⟩
        have hall' := hall.out
        rw [List.take_length] at hall'
        unfold fewB
        rw [hall']
        simp_all [Act.put, Array.getD] <;> omega
end Go.Proofs.Ytmpbofmhjjgccaa
