/-
  Real, Ref, few.
-/
import Derived.Test.YtmpbofmhjjgccaaRead21
import Derived.Test.YtmpbofmhjjgccaaFill
namespace Go.Proofs.Ytmpbofmhjjgccaa
open Go.RowKit
set_option maxRecDepth 100000
set_option linter.unusedVariables false
set_option linter.unusedSimpArgs false

structure SameV (v : Value) (w : World) (e : Ending) (w' : World) : Prop where
  out : e = .returned v
  below : Below w.heap.size w w'

theorem wpList_load_adr {P : Program} {ops : Array Oper} {rest : List Oper} {o : Oper} {a : Act} {w : World} {Q : Exit → Act → World → Prop} (hgd : o.guard = none) (ty : TypeId) (x : Operand) (ho : o.op = .load ty x)
    (ad : Addr) (hx : a.eval x = .pointer (some ad)) (cs : List Value) (d : TypeDesc) (hc : ∀ j v, cs[j]? = some v → w.cell? (ad.add j) = some v)
    (hu : P.underlying ty = some d) (hd : (match d with | .struct _ | .array _ _ => true | _ => false) = true) (hi : (P.info? ty).map (·.size) = some cs.length)
    (h : wpList P ops Q rest (a.put o.dst (.agg cs.toArray)) w) : wpList P ops Q (o :: rest) a w := by
  refine wpList_plain hgd fun _ hK => ?_
  have hl : (loadCells ad cs.length).run P w = .ok cs.toArray w := run_loadCells_list (P := P) w ad cs hc
  have hlv : (loadVar ty ad).run P w = .ok (.agg cs.toArray) w := by
    cases hq : P.info? ty with
    | none => simp [hq] at hi
    | some i =>
      have hs : i.size = cs.length := by simpa [hq] using hi
      have hagg : (isAgg ty).run P w = .ok true w := by
        unfold isAgg
        rw [Sem.run_bind, run_underlying hu w]
        cases d <;> simp_all
      simp [loadVar, Sem.run_bind, hagg, sizeOf, typeInfo, hq, hs, hl]
  unfold Oper.wp execOp
  simp only [ho, hx, Instr.loadAt, Instr.sureAddr, Sem.run_bind, Sem.run_pure, Result.andThen_ok, hlv]
  exact hK _ _ h
theorem size_S15 : (Try.prog.info? 39).map (·.size) = some 10 := by kernel_rfl

set_option maxHeartbeats 4000000 in
theorem real_one (x : SV) (w : World) : Calls Try.prog 18 #[.agg x.cells.toArray] w (SameV (.agg x.cells.toArray) w) := by
  unfold SV.cells
  go_enter Try.func18, Try.ntmps18
  go_wp2_with fail
  refine bodyPost_ret (v := .agg #[.string x.room, .string x.typ, .string x.name, .string x.topic, .string x.alias, .string x.avatar, .string x.rule, .int .i64 x.joined, .bool x.readable, .bool x.guests]) (by simp [results, Try.results18, go_sem]) rfl ⟨rfl, ((Below.refl _ w).alloc (Nat.le_refl _) _).alloc (((Below.refl _ w).alloc (Nat.le_refl _) _).size) _⟩
set_option maxHeartbeats 4000000 in
theorem ref_one (x : SV) (w : World) : Calls Try.prog 11 #[.agg x.cells.toArray] w (SameV (.agg x.cells.toArray) w) := by
  unfold SV.cells
  go_enter Try.func11, Try.ntmps11
  go_wp2_with fail
  refine bodyPost_ret (v := .agg #[.string x.room, .string x.typ, .string x.name, .string x.topic, .string x.alias, .string x.avatar, .string x.rule, .int .i64 x.joined, .bool x.readable, .bool x.guests]) (by simp [results, Try.results11, go_sem]) rfl ⟨rfl, ((Below.refl _ w).alloc (Nat.le_refl _) _).alloc (((Below.refl _ w).alloc (Nat.le_refl _) _).size) _⟩

/-- What Real answers. -/
structure Reals (l : List SV) (w : World) (e : Ending) (w' : World) : Prop where
  out : ∃ v, e = .returned v ∧ InAt w' v l
  below : Below w.heap.size w w'

set_option maxHeartbeats 8000000 in
theorem real_any (p : Option Addr) (l : List SV) (c : Nat) (w : World) (h : SVsAt w p l) (hl : l.length ≤ 1000) : Calls Try.prog 9 #[.slice p l.length c] w (Reals l w) := by
  obtain ⟨i0, hi, hz0, hz1, hz2⟩ := info_parts infoSum
  have HI := Lib.hid hi
  have HZ := Lib.hid hz0
  have HAt := Lib.hid h
  clear hi hz0 h
  go_enter Try.func9, Try.ntmps9
  go_wp2_with fail
  go_loopw [8, 3] (fun i v wq => ∃ k : Nat, k ≤ l.length ∧ i = .int .i64 k ∧ Hid (wq.ownsRow w.heap.size 42 10 v k (sumC (l.take k))) ∧ Below w.heap.size w wq ∧ Hid (k = 0 → v = .slice none 0 0)) (fun i _ _ => l.length - (intOf i).toNat)
  case atStart => exact ⟨0, Nat.zero_le _, rfl, Lib.hid (World.ownsRow_nil _ _ _ _), Below.refl _ _, Lib.hid (fun _ => rfl)⟩
  case round =>
    obtain ⟨k, hk, rfl, hown, hb, hz⟩ := hrel
    by_cases hlt : k < l.length
    · obtain ⟨x, hx⟩ : ∃ x, l[k]? = some x := ⟨_, List.getElem?_eq_getElem hlt⟩
      obtain ⟨a, rfl, cs, hcs, hcell⟩ := (HAt.out.below hb) k x hx
      have e : cs = x.cells := hcs
      subst e
      have HC := Lib.hid hcell
      have HX := Lib.hid hx
      have h10 : (Try.prog.info? 39).map (·.size) = some x.cells.length := size_S15
      have H10 := Lib.hid h10
      clear hcs hcell hx h10
      go_wp2_with (first | (refine wpList_load_adr rfl 39 (.tmp 10) rfl (a.add (k * 10)) rfl x.cells _ HC.out Try.underlying39 rfl H10.out ?_) | (refine wpList_store_new rfl 39 (.tmp 5) (.tmp 11) rfl wr _ rfl x.cells rfl rfl H10.out rfl (one_SV x) ?_) | (refine wpList_load_at rfl 39 (.tmp 5) rfl wr.heap.size 0 rfl x.cells _ (fun m v hv => by rw [Nat.zero_add, blk_cell (heap_alloc_new wr _), List.getElem?_toArray]; exact hv) Try.underlying39 rfl H10.out ?_))
      have hbA : Below wr.heap.size wr (wr.alloc (.cells x.cells.toArray 39)) := (Below.refl _ wr).alloc (Nat.le_refl _) _
      refine Calls.mono (real_one x _) ?_
      rintro e w1 ⟨rfl, hb1⟩
      have hb2 := hbA.trans (hb1.mono hbA.size)
      have hRow := heap_alloc_new w1 (.cells x.cells.toArray 42)
      have hb3 : Below wr.heap.size wr (w1.alloc (.cells x.cells.toArray 42)) := hb2.alloc hb2.size _
      have HRow := Lib.hid hRow
      have hown2 := ((hown.out.kept (row := none) (grow_of_below hb2) (by cases hv : u3.ownBlock <;> simp)).alloc (.cells x.cells.toArray 42))
      have HOWN := Lib.hid hown2
      clear hown2 hRow
      go_wp2_with (first | (refine wpList_buildOne rfl 28 42 (.tmp 14) rfl x.cells rfl i0 _ Try.underlying28 HI.out HZ.out hz1 (by show 0 < 10; omega) (by show 10 ≤ 1000; omega) ?_) | (at_builtin; go_loud (refine wpList_append_own _ rfl (.tmp 12) (.tmp 15) 28 rfl w.heap.size 42 i0 _ 10 128 Try.underlying28 HI.out HZ.out hz1 hz2 rfl (by decide) _ k (sumC (l.take k)) rfl HOWN.out ⟨w1.heap.size, 0, none⟩ 1 1 x.cells rfl rfl ?hn (one_SV x) ?h6 ?h7 ?hb ?hk)))
      case hn =>
        intro j u hj
        rw [addr_add, Nat.zero_add, blk_cell HRow.out, List.getElem?_toArray]
        exact hj
      case h6 => unfold maxLen; omega
      case h7 => omega
      case hb =>
        have := hb.size
        have := hb3.size
        omega
      case hk =>
        intro v' w' ho hg _
        have hB1 := hb.trans (hb3.mono hb.size)
        have hB2 := hB1.grown hg hB1.size (fun q hq => (HOWN.out.lt q hq).1)
        have e : sumC (l.take (k + 1)) = sumC (l.take k) ++ x.cells := by rw [take_snoc l k x HX.out, sumC_app]; simp [sumC]
        rw [← e] at ho
        have HO := Lib.hid ho
        clear ho e
        go_wp2_with fail
        go_roundw
        case rel => exact ⟨k + 1, by omega, by go_num, HO, hB2, Lib.hid (fun e => by omega)⟩
        case measure => simp [intOf]; omega
    · have hkz : k = l.length := by omega
      subst hkz
      go_wp2_with fail
      go_ret
      have ho := hown.out
      rw [List.take_length] at ho
      refine ⟨⟨_, rfl, ?_⟩, hb⟩
      by_cases h0 : 0 < l.length
      · obtain ⟨b, cap', sp', h1, h2, h3, h4⟩ := own_laid ho h0
        exact .inr ⟨b, cap', sp', h1, h0, h4⟩
      · exact .inl ⟨hz.out (by omega), List.eq_nil_of_length_eq_zero (by omega)⟩
end Go.Proofs.Ytmpbofmhjjgccaa
