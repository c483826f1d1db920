/-
  The document's list of writes grows.
-/
import Derived.Test.YtlbfjnmhnpioaaaDoorRefWrite
import Derived.Test.YtlbfjnmhnpioaaaDoorRegionInv
import Derived.Laws.OwnMore
import Derived.Great.BuildSlice
namespace Go.Proofs.YtlbfjnmhnpioaaaDoor
open Go.RowKit
set_option maxRecDepth 100000
set_option linter.unusedVariables false
set_option linter.unusedSimpArgs false

def wsC (ws : List WV) : List Value := ws.flatMap WV.cells
def LAt (w : World) (s : Value) (ws : List WV) : Prop := w.ownsRow 0 33 66 s ws.length (wsC ws)
theorem info_W : (Tryd.prog.info? 33).map (fun i => (i.zero, i.size, i.bytes)) = some (some (.agg ZW), 66, 80) := by kernel_rfl
theorem infoW : ∃ i, Tryd.prog.info? 33 = some i ∧ i.zero = some (.agg ZW) ∧ i.size = 66 ∧ i.bytes = 80 := by
  have h := info_W
  cases hq : Tryd.prog.info? 33 with
  | none => simp [hq] at h
  | some i =>
    simp only [hq, Option.map_some, Option.some.injEq, Prod.mk.injEq] at h
    exact ⟨i, rfl, h⟩
theorem sizeZW : (Value.agg ZW).cells.size = 66 := by kernel_rfl

theorem row_keep {w w' : World} {b n : Nat} {e : TypeId} {size : Nat} {v : Value} {xs : List Value} (h : w.ownsRow b e size v n xs) (hb : ∀ k, v.ownBlock = some k → w'.heap[k]? = w.heap[k]?) : w'.ownsRow b e size v n xs := by
  refine ⟨h.1, ?_⟩
  rcases h.2 with h0 | ⟨g, cap, cur, hv, hbg, hg, h1, h2, h3, h4⟩
  · exact .inl h0
  · exact .inr ⟨g, cap, cur, hv, hbg, (hb g (by rw [hv]; rfl)).trans hg, h1, h2, h3, h4⟩
theorem row_mono {w : World} {b b' n : Nat} {e : TypeId} {size : Nat} {v : Value} {xs : List Value} (h : w.ownsRow b e size v n xs) (hb : b' ≤ b) : w.ownsRow b' e size v n xs := by
  refine ⟨h.1, ?_⟩
  rcases h.2 with h0 | ⟨g, cap, cur, hv, hbg, hg, h1, h2, h3, h4⟩
  · exact .inl h0
  · exact .inr ⟨g, cap, cur, hv, by omega, hg, h1, h2, h3, h4⟩
/-- The block of a row. -/
theorem row_at {w : World} {b n : Nat} {e : TypeId} {size : Nat} {v : Value} {xs : List Value} (h : w.ownsRow b e size v n xs) {k : Nat} (hk : v.ownBlock = some k) : b ≤ k ∧ ∃ cur, w.heap[k]? = some (.cells cur e (0, 0)) := by
  rcases h.2 with ⟨rfl, _⟩ | ⟨g, cap, cur, rfl, hbg, hg, _⟩
  · cases hk
  · injection hk with hk
    subst hk
    exact ⟨hbg, cur, hg⟩

theorem row_one {w : World} {b n : Nat} {e : TypeId} {size : Nat} {v : Value} {xs : List Value} (h : w.ownsRow b e size v n xs) : v.cells.size = 1 ∧ v.oneCell' = true := by
  rcases h.2 with ⟨rfl, _⟩ | ⟨g, cap, cur, rfl, _⟩ <;> exact ⟨rfl, rfl⟩

/-- 'append([]W{}, l...)'. -/
theorem run_app0 {w : World} {K : Nat} {s : Value} {ws : List WV} (hK : w.heap[K]? = some (.cells #[] 33 (0, 0))) (hs : LAt w s ws) (hn : ws.length ≤ 100000) (ty : TypeId) :
    ∃ v' w', (Builtin.append_ #[30, 30] ty #[.slice (some ⟨K, 0, none⟩) 0 0, s]).run Tryd.prog w = .ok v' w' ∧ w'.ownsRow K 33 66 v' ws.length (wsC ws) ∧ w.grownBy w' (some K) ∧
      (v'.ownBlock = some K ∨ v'.ownBlock = some w.heap.size) := by
  obtain ⟨i, hi, hz, hsz, hby⟩ := infoW
  have hrow : w.ownsRow K 33 66 (.slice (some ⟨K, 0, none⟩) 0 0) 0 [] := ⟨by simp, .inr ⟨K, 0, #[], rfl, Nat.le_refl _, hK, Nat.le_refl _, Nat.zero_le _, by simp, by simp⟩⟩
  have hKs := blk_lt hK
  rcases hs.2 with ⟨rfl, h0⟩ | ⟨g, cap, cur, rfl, _, hg, hnc, hcm, hcs, htake⟩
  · have hx : wsC ws = [] := List.eq_nil_of_length_eq_zero (by rw [hs.1, h0])
    refine ⟨_, w, run_append_owned_none (P := Tryd.prog) w K 30 ty 33 i 66 Tryd.underlying30 hi _ 0 [] hrow, ?_, ⟨rfl, rfl, rfl, Nat.le_refl _, fun _ _ _ => rfl⟩, .inl rfl⟩
    rw [h0, hx]
    exact hrow
  · have hnews : ∀ j u, (wsC ws)[j]? = some u → w.cell? ((⟨g, 0, none⟩ : Addr).add j) = some u := fun j u hj => hs.cells (g := g) rfl j u hj
    have h1 : ∀ u ∈ wsC ws, u.oneCell' = true := by
      intro u hu
      obtain ⟨x, _, hx⟩ := List.mem_flatMap.1 hu
      exact x.one u hx
    obtain ⟨v', w', hr, hrow', hgr, _⟩ := run_append_own (P := Tryd.prog) w K 30 ty 33 i (.agg ZW) 66 80 Tryd.underlying30 hi hz hsz hby sizeZW (by omega) _ 0 [] hrow ⟨g, 0, none⟩ ws.length cap (wsC ws) hs.1 hnews h1 (by simp only [maxLen]; omega) (by omega) (by omega)
    rw [Nat.zero_add, List.nil_append] at hrow'
    refine ⟨v', w', hr, hrow', hgr, ?_⟩
    by_cases h0 : ws.length = 0
    · obtain ⟨w2, hr2, _⟩ := run_append_fits (P := Tryd.prog) w K 30 ty 33 i 66 Tryd.underlying30 hi hsz K 0 0 [] hrow ⟨g, 0, none⟩ ws.length cap (wsC ws) hs.1 hnews h1 (by omega)
      rw [hr] at hr2
      injection hr2 with hv _
      exact .inl (by rw [hv]; rfl)
    · have hr2 := run_append_grow (P := Tryd.prog) w 30 ty 33 i (.agg ZW) Tryd.underlying30 hi hz ⟨K, 0, none⟩ 0 0 [] (by simp) (fun j u hj => by simp at hj) ⟨g, 0, none⟩ ws.length cap (wsC ws) (by rw [hsz]; exact hs.1) hnews (by omega) (by omega) (growslice_fits (by omega) (by rw [hby]; omega))
      rw [hr] at hr2
      injection hr2 with hv _
      exact .inr (by rw [hv]; rfl)

/-- 'append(l, x)'. -/
theorem run_app1 {w : World} {b k c : Nat} {v : Value} {n : Nat} {xs : List Value} {x : WV} (hv : w.ownsRow b 33 66 v n xs) (hn : n ≤ 100000) (hx : x.b.length = 64) (hk : w.heap[k]? = some (.cells x.cells.toArray 33 (0, 0))) (hb : b ≤ w.heap.size) (ty : TypeId) :
    ∃ v' w', (Builtin.append_ #[30, 30] ty #[v, .slice (some ⟨k, 0, none⟩) 1 c]).run Tryd.prog w = .ok v' w' ∧ w'.ownsRow b 33 66 v' (n + 1) (xs ++ x.cells) ∧ w.grownBy w' v.ownBlock := by
  obtain ⟨i, hi, hz, hsz, hby⟩ := infoW
  obtain ⟨v', w', hr, hrow, hg, _⟩ := run_append_own (P := Tryd.prog) w b 30 ty 33 i (.agg ZW) 66 80 Tryd.underlying30 hi hz hsz hby sizeZW (by omega) v n xs hv ⟨k, 0, none⟩ 1 c x.cells (by rw [x.len hx]) (fun j u hj => by rw [addr_add, Nat.zero_add, blk_cell hk, List.getElem?_toArray]; exact hj) x.one (by simp only [maxLen]; omega) (by omega) hb
  exact ⟨v', w', hr, hrow, hg⟩

section
variable {P : Program}
theorem wp_append_run {o : Oper} {a : Act} {w w' : World} {K : Act → World → Prop} {Q : Exit → Act → World → Prop} (s x : Operand) (t : TypeId) (ho : o.op = .call { callee := .builtin .append, args := #[s, x], argTypes := #[t, t] })
    (v y v' : Value) (hs : a.eval s = v) (hx : a.eval x = y) (hr : (Builtin.append_ #[t, t] o.type #[v, y]).run P w = .ok v' w') (h : K (a.put o.dst v') w') : o.wp P a w K Q := by
  unfold Oper.wp execOp
  simp only [ho, resolve, invoke, builtin, Sem.run_bind, Sem.run_pure, Result.andThen_ok, List.map_toArray, List.map_cons, List.map_nil, hs, hx, hr]
  exact h
theorem wp_empty {o : Oper} {a : Act} {w : World} {K : Act → World → Prop} {Q : Exit → Act → World → Prop} (t e : TypeId) (ho : o.op = .buildSlice t 0 #[]) (hu : P.underlying t = some (.slice e)) (hi : (P.info? e).isSome = true)
    (h : K (a.put o.dst (.slice (some ⟨w.heap.size, 0, none⟩) 0 0)) (w.alloc (.cells #[] e))) : o.wp P a w K Q := by
  obtain ⟨i, hi⟩ := Option.isSome_iff_exists.1 hi
  unfold Oper.wp execOp
  have : (Instr.buildSlice t 0 #[]).run P w = .ok (.slice (some ⟨w.heap.size, 0, none⟩) 0 0) (w.alloc (.cells #[] e)) := by
    have e0 : Array.range 0 = #[] := Array.eq_empty_of_size_eq_zero (by simp)
    simp [Instr.buildSlice, run_underlying hu, sizeOf, typeInfo, hi, Instr.fill, newRow, e0]
  simp only [ho, Sem.run_bind, List.map_toArray, List.map_nil, this, Result.andThen_ok]
  exact h
theorem zip_set : ∀ (l : List Value) (k : Nat) (cs : Array Value), (∀ j, cs.size ≤ k + j → l[j]? = none) → ((l.zipIdx k).foldl (fun cs (x : Value × Nat) => cs.setIfInBounds x.2 x.1) cs) = (cs.toList.take k ++ l ++ cs.toList.drop (k + l.length)).toArray
  | [], k, cs, _ => by simp
  | x :: l, k, cs, h => by
    have hk : k < cs.size := Nat.lt_of_not_le fun hle => by simpa using h 0 hle
    rw [List.zipIdx_cons, List.foldl_cons, zip_set l (k + 1) _ (fun j hj => by have := h (j + 1) (by simp at hj; omega); simpa using this)]
    congr 1
    apply List.ext_getElem?
    intro q
    simp only [Array.toList_setIfInBounds, List.length_cons]
    have e1 : (cs.toList.set k x).drop (k + 1 + l.length) = cs.toList.drop (k + (l.length + 1)) := by
      rw [List.drop_set_of_lt (by omega), show k + 1 + l.length = k + (l.length + 1) by omega]
    have e2 : (cs.toList.set k x).take (k + 1) = cs.toList.take k ++ [x] := by
      rw [List.take_add_one, List.take_set_of_le (by omega), List.getElem?_set_self (by simpa using hk)]
      rfl
    rw [e1, e2]
    simp
theorem fill_one (C Z : Array Value) (n : Nat) (hn : C.size = n) (hz : Z.size = n) : Instr.fill (fun i => some (i * n, n)) Z [(0, .agg C)] = some C := by
  subst hn
  have h := zip_set C.toList 0 Z (fun j hj => by simp; omega)
  have e : C.zipIdx.foldl (fun cs (x : Value × Nat) => cs.setIfInBounds (0 * C.size + x.2) x.1) Z = C := by
    rw [← Array.foldl_toList, Array.toList_zipIdx]
    simp only [Nat.zero_mul, Nat.zero_add]
    rw [h, List.drop_eq_nil_of_le (by simp [hz])]
    simp
  have hc : (Value.agg C).cells = C := rfl
  unfold Instr.fill
  simp only [hc, Nat.zero_mul, Nat.zero_add, hz]
  rw [if_neg (by simp)]
  unfold Instr.fill
  simp only [Nat.zero_mul, Nat.zero_add] at e
  rw [e]
end

section
variable {P : Program}
theorem wp_run_val {o : Oper} {a : Act} {w w' : World} {K : Act → World → Prop} {Q : Exit → Act → World → Prop} (s : TypeId) (x : Operand) (f : Nat) (v v' : Value) (ho : o.op = .fieldAddr s x f) (hx : a.eval x = v)
    (hr : (Instr.fieldAt s v f).run P w = .ok v' w') (h : K (a.put o.dst v') w') : o.wp P a w K Q := by
  unfold Oper.wp execOp
  simp only [ho, hx, hr, Sem.run_bind, Result.andThen_ok]
  exact h
theorem wp_load_run {o : Oper} {a : Act} {w w' : World} {K : Act → World → Prop} {Q : Exit → Act → World → Prop} (s : TypeId) (x : Operand) (p : Addr) (v' : Value) (ho : o.op = .load s x) (hx : a.eval x = .pointer (some p))
    (hr : (loadVar s p).run P w = .ok v' w') (h : K (a.put o.dst v') w') : o.wp P a w K Q := by
  unfold Oper.wp execOp
  simp only [ho, hx, Instr.loadAt, Instr.sureAddr, Sem.run_bind, Sem.run_pure, Result.andThen_ok, hr]
  exact h
theorem wp_store_run {o : Oper} {a : Act} {w w' : World} {K : Act → World → Prop} {Q : Exit → Act → World → Prop} (s : TypeId) (x y : Operand) (p : Addr) (v : Value) (ho : o.op = .store s x y) (hx : a.eval x = .pointer (some p)) (hy : a.eval y = v)
    (hr : (storeVar s p v).run P w = .ok () w') (h : K (a.put o.dst undef) w') : o.wp P a w K Q := by
  unfold Oper.wp execOp
  simp only [ho, hx, hy, Instr.storeAt, Instr.sureAddr, Sem.run_bind, Sem.run_pure, Result.andThen_ok, hr]
  exact h
end

theorem field_list (w : World) (g : Nat) : (Instr.fieldAt 35 (.pointer (some ⟨g, 0, none⟩)) 1).run Tryd.prog w = .ok (.pointer (some ⟨g, 1, none⟩)) w := by kernel_rfl
theorem field_n (w : World) (g : Nat) : (Instr.fieldAt 35 (.pointer (some ⟨g, 0, none⟩)) 0).run Tryd.prog w = .ok (.pointer (some ⟨g, 0, none⟩)) w := by kernel_rfl
theorem load_list {w : World} {g : Nat} {d : DV} {s : Value} (h : DAt w g d s) : (loadVar 30 ⟨g, 1, none⟩).run Tryd.prog w = .ok s w := by
  have hc : w.cell? ⟨g, 1, none⟩ = some s := by rw [h.cell]; rfl
  simp [loadVar, isAgg, run_underlying Tryd.underlying30, load, hc]
  have hr := run_load (P := Tryd.prog) (w := w) ⟨g, 1, none⟩ .plain
  rw [hc] at hr
  exact hr
theorem size_L : (Tryd.prog.info? 30).map (·.size) = some 1 := by kernel_rfl
theorem store_list {w : World} {g : Nat} {d : DV} {s : Value} (h : DAt w g d s) (t : Value) (ht : t.cells.size = 1) (h1 : t.oneCell' = true) : (storeVar 30 ⟨g, 1, none⟩ t).run Tryd.prog w = .ok () (w.setCell ⟨g, 1, none⟩ t) := by
  have hc : w.cell? ⟨g, 1, none⟩ = some s := by rw [h.cell]; rfl
  have hi := size_L
  cases hq : Tryd.prog.info? 30 with
  | none => simp [hq] at hi
  | some i =>
    have hs : i.size = 1 := by simpa [hq] using hi
    have hst := run_store Tryd.prog w ⟨g, 1, none⟩ t .plain h1
    rw [hc, blk_frozen h 1] at hst
    have hcs : t.cells.toList = [t] := by
      cases t <;> first | rfl | (simp [Value.oneCell'] at h1; done)
    simp [storeVar, ht, sizeOf, typeInfo, hq, hs, hcs, storeCells]
    exact hst

structure GrowInv (W0 : World) (g k : Nat) (d : DV) (s : Value) (ws : List WV) (x : WV) (L : Nat → Bool) (vs : Nat → Value) (w : World) : Prop where
  grown : W0.grownBy w (some g)
  c3 : L 3 = true → L 0 = true
  c6 : L 6 = true → L 3 = true ∧ L 5 = true
  c8 : L 8 = true → L 6 = true
  c9 : L 3 = true → L 2 = true
  i0 : L 0 = true → L 3 = false → ∃ K, vs 0 = .slice (some ⟨K, 0, none⟩) 0 0 ∧ W0.heap.size ≤ K ∧ w.heap[K]? = some (.cells #[] 33 (0, 0))
  i1 : L 1 = true → vs 1 = .pointer (some ⟨g, 1, none⟩)
  i2 : L 2 = true → vs 2 = s
  i3 : L 3 = true → L 6 = false → w.ownsRow W0.heap.size 33 66 (vs 3) ws.length (wsC ws)
  i4 : L 4 = true → vs 4 = .agg x.cells.toArray
  i5 : L 5 = true → L 6 = false → ∃ q, vs 5 = .slice (some ⟨q, 0, none⟩) 1 1 ∧ W0.heap.size ≤ q ∧ w.heap[q]? = some (.cells x.cells.toArray 33 (0, 0)) ∧
    (L 0 = true → L 3 = false → some q ≠ (vs 0).ownBlock)
  i6 : L 6 = true → w.ownsRow W0.heap.size 33 66 (vs 6) (ws.length + 1) (wsC ws ++ x.cells)
  i7 : L 7 = true → vs 7 = .pointer (some ⟨g, 1, none⟩)
  i8 : DAt w g d (if L 8 then vs 6 else s)

theorem grow_trans {a b c : World} {r r' : Option Nat} (h : a.grownBy b r) (k : b.grownBy c r') (hr : ∀ q, r' = some q → q < a.heap.size → some q = r) : a.grownBy c r :=
  ⟨k.os.trans h.os, k.tape.trans h.tape, k.output.trans h.output, Nat.le_trans h.size k.size, fun q hq hne => (k.block q (Nat.lt_of_lt_of_le hq h.size) (fun e => hne (hr q e.symm hq))).trans (h.block q hq hne)⟩
theorem grow_alloc (w : World) (o : Obj) (r : Option Nat) : w.grownBy (w.alloc o) r := ⟨rfl, rfl, rfl, by simp, fun q hq _ => heap_alloc_old w o hq⟩

section
variable {W0 : World} {g k : Nat} {d : DV} {s : Value} {ws : List WV} {x : WV} {L : Nat → Bool} {vs : Nat → Value} {w : World}
theorem GrowInv.glt (h : GrowInv W0 g k d s ws x L vs w) (hD : DAt W0 g d s) : g < W0.heap.size := blk_lt hD
theorem GrowInv.list (h : GrowInv W0 g k d s ws x L vs w) (hD : DAt W0 g d s) (hL : LAt W0 s ws) : LAt w s ws := by
  refine row_keep hL fun q hq => ?_
  obtain ⟨_, cur, hc⟩ := row_at hL hq
  exact h.grown.block q (blk_lt hc) (fun e => types_ne hc hD (by decide) (Option.some.inj e))
theorem GrowInv.item (h : GrowInv W0 g k d s ws x L vs w) (hD : DAt W0 g d s) (hW : WAt W0 k x) : WAt w k x :=
  (h.grown.block k (blk_lt hW) (fun e => types_ne hW hD (by decide) (Option.some.inj e))).trans hW

/-- One more operation's value, that no other is of; the world as it was. -/
theorem GrowInv.op0 (h : GrowInv W0 g k d s ws x L vs w) (hD : DAt W0 g d s) (h0 : L 0 = false) :
    GrowInv W0 g k d s ws x (fun j => L j || (j == 0)) (fun j => if j = 0 then .slice (some ⟨w.heap.size, 0, none⟩) 0 0 else vs j) (w.alloc (.cells #[] 33)) := by
  have h3 : L 3 = false := by cases hc : L 3 with | false => rfl | true => rw [h.c3 hc] at h0; cases h0
  have h6 : L 6 = false := by cases hc : L 6 with | false => rfl | true => rw [(h.c6 hc).1] at h3; cases h3
  have h8 : L 8 = false := by cases hc : L 8 with | false => rfl | true => rw [h.c8 hc] at h6; cases h6
  have hg := h.grown
  refine ⟨grow_trans hg (grow_alloc w _ none) (fun q e => by cases e), ?_, ?_, ?_, ?_, ?_, ?_, ?_, ?_, ?_, ?_, ?_, ?_, ?_⟩
  · simp [h3]
  · simp [h6]
  · simp [h8]
  · simpa using h.c9
  · intro _ _; exact ⟨w.heap.size, rfl, hg.size, heap_alloc_new w _⟩
  · simpa using h.i1
  · simpa using h.i2
  · simp [h3]
  · simpa using h.i4
  · intro h5 _
    obtain ⟨q, e1, e2, e3, _⟩ := h.i5 (by simpa using h5) h6
    have hq := blk_lt e3
    exact ⟨q, e1, e2, (heap_alloc_old w _ hq).trans e3, fun _ _ e => by injection e with e; have e : q = w.heap.size := e; omega⟩
  · simp [h6]
  · simpa using h.i7
  · have hgl := h.glt hD
    have := h.i8
    simp only [h8, Bool.or_false] at this ⊢
    exact (heap_alloc_old w _ (by have := hg.size; omega)).trans this
theorem GrowInv.op1 (h : GrowInv W0 g k d s ws x L vs w) : GrowInv W0 g k d s ws x (fun j => L j || (j == 1)) (fun j => if j = 1 then .pointer (some ⟨g, 1, none⟩) else vs j) w :=
  ⟨h.grown, by simpa using h.c3, by simpa using h.c6, by simpa using h.c8, by simpa using h.c9, by simpa using h.i0, by simp, by simpa using h.i2, by simpa using h.i3, by simpa using h.i4, by simpa using h.i5, by simpa using h.i6, by simpa using h.i7, by simpa using h.i8⟩
theorem GrowInv.op2 (h : GrowInv W0 g k d s ws x L vs w) : GrowInv W0 g k d s ws x (fun j => L j || (j == 2)) (fun j => if j = 2 then s else vs j) w :=
  ⟨h.grown, by simpa using h.c3, by simpa using h.c6, by simpa using h.c8, by simp, by simpa using h.i0, by simpa using h.i1, by simp, by simpa using h.i3, by simpa using h.i4, by simpa using h.i5, by simpa using h.i6, by simpa using h.i7, by simpa using h.i8⟩
theorem GrowInv.op4 (h : GrowInv W0 g k d s ws x L vs w) : GrowInv W0 g k d s ws x (fun j => L j || (j == 4)) (fun j => if j = 4 then .agg x.cells.toArray else vs j) w :=
  ⟨h.grown, by simpa using h.c3, by simpa using h.c6, by simpa using h.c8, by simpa using h.c9, by simpa using h.i0, by simpa using h.i1, by simpa using h.i2, by simpa using h.i3, by simp, by simpa using h.i5, by simpa using h.i6, by simpa using h.i7, by simpa using h.i8⟩
theorem GrowInv.op7 (h : GrowInv W0 g k d s ws x L vs w) : GrowInv W0 g k d s ws x (fun j => L j || (j == 7)) (fun j => if j = 7 then .pointer (some ⟨g, 1, none⟩) else vs j) w :=
  ⟨h.grown, by simpa using h.c3, by simpa using h.c6, by simpa using h.c8, by simpa using h.c9, by simpa using h.i0, by simpa using h.i1, by simpa using h.i2, by simpa using h.i3, by simpa using h.i4, by simpa using h.i5, by simpa using h.i6, by simp, by simpa using h.i8⟩
theorem GrowInv.op5 (h : GrowInv W0 g k d s ws x L vs w) (hD : DAt W0 g d s) (h5 : L 5 = false) :
    GrowInv W0 g k d s ws x (fun j => L j || (j == 5)) (fun j => if j = 5 then .slice (some ⟨w.heap.size, 0, none⟩) 1 1 else vs j) (w.alloc (.cells x.cells.toArray 33)) := by
  have h6 : L 6 = false := by cases hc : L 6 with | false => rfl | true => rw [(h.c6 hc).2] at h5; cases h5
  have h8 : L 8 = false := by cases hc : L 8 with | false => rfl | true => rw [h.c8 hc] at h6; cases h6
  have hg := h.grown
  refine ⟨grow_trans hg (grow_alloc w _ none) (fun q e => by cases e), ?_, ?_, ?_, ?_, ?_, ?_, ?_, ?_, ?_, ?_, ?_, ?_, ?_⟩
  · simpa using h.c3
  · simp [h6]
  · simp [h8]
  · simpa using h.c9
  · intro e0 e3
    obtain ⟨K, f1, f2, f3⟩ := h.i0 (by simpa using e0) (by simpa using e3)
    exact ⟨K, f1, f2, (heap_alloc_old w _ (blk_lt f3)).trans f3⟩
  · simpa using h.i1
  · simpa using h.i2
  · intro e3 _
    refine row_keep (h.i3 (by simpa using e3) h6) fun q hq => ?_
    obtain ⟨_, cur, hc⟩ := row_at (h.i3 (by simpa using e3) h6) hq
    exact heap_alloc_old w _ (blk_lt hc)
  · simpa using h.i4
  · intro _ _
    refine ⟨w.heap.size, rfl, hg.size, heap_alloc_new w _, fun e0 e3 e => ?_⟩
    obtain ⟨K, f1, f2, f3⟩ := h.i0 (by simpa using e0) (by simpa using e3)
    have := blk_lt f3
    simp only [show (0 : Nat) ≠ 5 by omega, if_false, f1] at e
    injection e with e
    have e : w.heap.size = K := e
    omega
  · simp [h6]
  · simpa using h.i7
  · have hgl := h.glt hD
    have := h.i8
    simp only [h8, Bool.or_false] at this ⊢
    exact (heap_alloc_old w _ (by have := hg.size; omega)).trans this
theorem GrowInv.op3 (h : GrowInv W0 g k d s ws x L vs w) (hD : DAt W0 g d s) (hL : LAt W0 s ws) (hn : ws.length ≤ 100000) (h3 : L 3 = false) (h0 : L 0 = true) (h2 : L 2 = true) (ty : TypeId) :
    ∃ v' w', (Builtin.append_ #[30, 30] ty #[vs 0, s]).run Tryd.prog w = .ok v' w' ∧ GrowInv W0 g k d s ws x (fun j => L j || (j == 3)) (fun j => if j = 3 then v' else vs j) w' := by
  have h6 : L 6 = false := by cases hc : L 6 with | false => rfl | true => rw [(h.c6 hc).1] at h3; cases h3
  have h8 : L 8 = false := by cases hc : L 8 with | false => rfl | true => rw [h.c8 hc] at h6; cases h6
  have hg := h.grown
  obtain ⟨K, f1, f2, f3⟩ := h.i0 h0 h3
  obtain ⟨v', w', hr, hrow, hgr, hv⟩ := run_app0 f3 (h.list hD hL) hn ty
  have hK := blk_lt f3
  have hgl := h.glt hD
  refine ⟨v', w', by rw [f1]; exact hr, grow_trans hg hgr (fun q e hq => by injection e with e; omega), ?_, ?_, ?_, ?_, ?_, ?_, ?_, ?_, ?_, ?_, ?_, ?_, ?_⟩
  · simp [h0]
  · simp [h6]
  · simp [h8]
  · simp [h2]
  · simp
  · simpa using h.i1
  · simpa using h.i2
  · intro _ _; simpa using row_mono hrow f2
  · simpa using h.i4
  · intro e5 _
    obtain ⟨q, e1, e2, e3, e4⟩ := h.i5 (by simpa using e5) h6
    have hq := blk_lt e3
    have hqK : q ≠ K := by
      intro e
      have := e4 h0 h3
      rw [f1, e] at this
      exact this rfl
    refine ⟨q, e1, e2, (hgr.block q hq (fun e => hqK (Option.some.inj e))).trans e3, fun _ e => by simp at e⟩
  · simp [h6]
  · simpa using h.i7
  · have := h.i8
    simp only [h8, Bool.or_false] at this ⊢
    exact (hgr.block g (by have := hg.size; omega) (fun e => by injection e with e; omega)).trans this
theorem GrowInv.op6 (h : GrowInv W0 g k d s ws x L vs w) (hD : DAt W0 g d s) (hn : ws.length ≤ 100000) (hx : x.b.length = 64) (h6 : L 6 = false) (h3 : L 3 = true) (h5 : L 5 = true) (ty : TypeId) :
    ∃ v' w', (Builtin.append_ #[30, 30] ty #[vs 3, vs 5]).run Tryd.prog w = .ok v' w' ∧ GrowInv W0 g k d s ws x (fun j => L j || (j == 6)) (fun j => if j = 6 then v' else vs j) w' := by
  have h8 : L 8 = false := by cases hc : L 8 with | false => rfl | true => rw [h.c8 hc] at h6; cases h6
  have hg := h.grown
  obtain ⟨q, e1, e2, e3, e4⟩ := h.i5 h5 h6
  have hrow3 := h.i3 h3 h6
  obtain ⟨v', w', hr, hrow, hgr⟩ := run_app1 (c := 1) hrow3 hn hx e3 hg.size ty
  have hgl := h.glt hD
  have hge : ∀ p, (vs 3).ownBlock = some p → W0.heap.size ≤ p := fun p hp => (row_at hrow3 hp).1
  refine ⟨v', w', by rw [e1]; exact hr, grow_trans hg hgr (fun p e hp => by have := hge p e; omega), ?_, ?_, ?_, ?_, ?_, ?_, ?_, ?_, ?_, ?_, ?_, ?_, ?_⟩
  · simpa using h.c3
  · simp [h3, h5]
  · simp [h8]
  · simpa using h.c9
  · simp [h3]
  · simpa using h.i1
  · simpa using h.i2
  · simp
  · simpa using h.i4
  · simp
  · intro _; simpa using hrow
  · simpa using h.i7
  · have := h.i8
    simp only [h8, Bool.or_false] at this ⊢
    exact (hgr.block g (by have := hg.size; omega) (fun e => by have := hge g e.symm; omega)).trans this
theorem GrowInv.op8 (h : GrowInv W0 g k d s ws x L vs w) (hD : DAt W0 g d s) (h8 : L 8 = false) (h6 : L 6 = true) (v : Value) :
    GrowInv W0 g k d s ws x (fun j => L j || (j == 8)) (fun j => if j = 8 then v else vs j) (w.setCell ⟨g, 1, none⟩ (vs 6)) := by
  have hg := h.grown
  have hgl := h.glt hD
  obtain ⟨h3, h5⟩ := h.c6 h6
  have hrow6 := h.i6 h6
  refine ⟨grow_trans hg (r' := some g) ⟨rfl, rfl, rfl, by simp, fun q hq hne => Below.heap_setCell w ⟨g, 1, none⟩ (vs 6) q (fun e => hne (by rw [e]))⟩ (fun q e hq => e.symm), ?_, ?_, ?_, ?_, ?_, ?_, ?_, ?_, ?_, ?_, ?_, ?_, ?_⟩
  · simpa using h.c3
  · simpa using h.c6
  · simp [h6]
  · simpa using h.c9
  · simp [h3]
  · simpa using h.i1
  · simpa using h.i2
  · simp [h6]
  · simpa using h.i4
  · simp [h6]
  · intro _
    refine row_keep (by simpa using hrow6) fun q hq => ?_
    have := (row_at hrow6 (by simpa using hq)).1
    exact Below.heap_setCell w ⟨g, 1, none⟩ (vs 6) q (by show q ≠ g; omega)
  · simpa using h.i7
  · have := h.i8
    simp only [h8, Bool.or_false] at this ⊢
    exact this.list (vs 6)
end

end Go.Proofs.YtlbfjnmhnpioaaaDoor
