/-
  Tell: nil and a code.
-/
import Derived.Test.YtmohbbmokcnbhaaDoorErrAs
import Derived.Test.YtmohbbmokcnbhaaDoorBlk
import Derived.Test.YtmohbbmokcnbhaaDoorSeg
import Derived.Deep.Cut
namespace Go.Proofs.YtmohbbmokcnbhaaDoor
open Go.RowKit
set_option maxRecDepth 100000
set_option linter.unusedVariables false
set_option linter.unusedSimpArgs false

theorem as_hit_code' (c : Int) (b : Nat) (old : Value) (w : World) (hg : ErrT w) (hb : w.heap[b]? = some (.cells #[old] 41 (0, 0))) :
    Calls Tryd.prog 15 #[.iface 41 (.int .i64 c), .iface 55 (.pointer (some ⟨b, 0, none⟩))] w fun ev w' => ev = .returned (.bool true) ∧ w'.heap[b]? = some (.cells #[.int .i64 c] 41 (0, 0)) ∧ w.grownBy w' (some b) := by
  have hlt : b < w.heap.size := (Array.getElem?_eq_some_iff.1 hb).1
  refine (as_hit_code c ⟨b, 0, none⟩ old w hg (by simp [World.cell?, hb]) (by simp [World.frozen?, hb])).mono ?_
  rintro e w' ⟨rfl, rfl⟩
  refine ⟨rfl, ?_, ⟨rfl, rfl, rfl, by simp; omega, fun k hk hne => ?_⟩⟩
  · have h4 : ((((w.alloc (.cells #[.pointer (some ⟨b, 0, none⟩)] 55)).alloc (.cells #[.pointer (some ⟨2, 55, none⟩), .pointer (some ⟨w.heap.size, 0, none⟩), .int .u64 150] 64)).alloc (.cells #[.pointer (some ⟨2, 55, none⟩), .pointer (some ⟨w.heap.size, 0, none⟩), .int .u64 150] 64)).alloc (.cells #[.int .i64 c] 41)).heap[b]? = some (.cells #[old] 41 (0, 0)) := by
      rw [heap_alloc_old _ _ (by simp; omega), heap_alloc_old _ _ (by simp; omega), heap_alloc_old _ _ (by simp; omega), heap_alloc_old _ _ hlt]
      exact hb
    have := heap_setCell_same _ b 0 #[old] 41 (.int .i64 c) h4
    simpa using this
  · rw [heap_setCell_other _ _ _ _ (fun e => hne (by rw [e])), heap_alloc_old _ _ (by simp; omega), heap_alloc_old _ _ (by simp; omega), heap_alloc_old _ _ (by simp; omega), heap_alloc_old _ _ hk]
theorem as_miss_fault' (c : Int) (b : Nat) (old : Value) (w : World) (hg : ErrT w) (hb : w.heap[b]? = some (.cells #[old] 39 (0, 0))) :
    Calls Tryd.prog 15 #[.iface 41 (.int .i64 c), .iface 43 (.pointer (some ⟨b, 0, none⟩))] w fun ev w' => ev = .returned (.bool false) ∧ Below w.heap.size w w' := by
  refine (as_miss_fault c ⟨b, 0, none⟩ old w hg (by simp [World.cell?, hb])).mono ?_
  rintro e w' ⟨rfl, rfl⟩
  refine ⟨rfl, ?_⟩
  refine Below.alloc (Below.alloc (Below.alloc (Below.refl _ _) (Nat.le_refl _) _) (by simp) _) (by simp; omega) _

theorem results_cell_one {fn : Func} {t : Tmp} {ty : TypeId} (h : fn.results = #[.cell t ty]) (tmps : Array Value) (P : Program) (w : World) (a : Addr) (hp : tmps.getD t undef = .pointer (some a))
    (v : Value) (hl : (loadVar ty a).run P w = .ok v w) :
    (results fn tmps).run P w = .ok v w := by
  have hp2 : (tmps[t]?).getD undef = .pointer (some a) := by rw [← hp]; simp
  simp [results, h, hp2, hl, asAddr]
/-- An error of the document. -/
def errE (c a : Int) (p : ByteArray) : Array Value := #[.int .i64 c, .int .i64 a, .string p]
def EAt (w : World) (g : Nat) (c a : Int) (p : ByteArray) : Prop := w.heap[g]? = some (.cells #[.int .i64 c, .int .i64 a, .string p] 32 (0, 0))
theorem size_E : (Tryd.prog.info? 32).map (·.size) = some 3 := by kernel_rfl
theorem EAt.load {w : World} {g : Nat} {c a : Int} {p : ByteArray} (h : EAt w g c a p) : (loadVar 32 ⟨g, 0, none⟩).run Tryd.prog w = .ok (.agg (errE c a p)) w :=
  run_loadVar_at (P := Tryd.prog) w g 0 32 [.int .i64 c, .int .i64 a, .string p] _ (fun j v hj => by rw [Nat.zero_add, blk_cell h]; simpa using hj) Tryd.underlying32 rfl size_E
theorem EAt.c0 {w : World} {g : Nat} {c a : Int} {p : ByteArray} (h : EAt w g c a p) : w.cell? ⟨g, 0, none⟩ = some (.int .i64 c) := by rw [blk_cell h]; rfl
theorem EAt.c1 {w : World} {g : Nat} {c a : Int} {p : ByteArray} (h : EAt w g c a p) : w.cell? ⟨g, 1, none⟩ = some (.int .i64 a) := by rw [blk_cell h]; rfl
theorem EAt.c2 {w : World} {g : Nat} {c a : Int} {p : ByteArray} (h : EAt w g c a p) : w.cell? ⟨g, 2, none⟩ = some (.string p) := by rw [blk_cell h]; rfl
theorem EAt.f0 {w : World} {g : Nat} {c a : Int} {p : ByteArray} (h : EAt w g c a p) : w.frozen? ⟨g, 0, none⟩ = false := blk_frozen h 0
theorem EAt.code {w : World} {g : Nat} {c a : Int} {p : ByteArray} (h : EAt w g c a p) (c' : Int) : EAt (w.setCell ⟨g, 0, none⟩ (.int .i64 c')) g c' a p := by
  have := heap_setCell_same w g 0 _ _ (.int .i64 c') h
  exact this
theorem EAt.below {w w' : World} {g : Nat} {c a : Int} {p : ByteArray} (h : EAt w g c a p) (hb : Below w.heap.size w w') : EAt w' g c a p := (hb.block g (blk_lt h)).trans h

theorem wpList_store_E {ops : Array Oper} {rest : List Oper} {o : Oper} {a : Act} {w : World} {Q : Exit → Act → World → Prop} (hgd : o.guard = none) (x y : Operand) (ho : o.op = .store 32 x y)
    (g : Nat) (c i : Int) (p : ByteArray) (c' i' : Int) (p' : ByteArray) (hx : a.eval x = .pointer (some ⟨g, 0, none⟩)) (hy : a.eval y = .agg #[.int .i64 c, .int .i64 i, .string p]) (hE : EAt w g c' i' p')
    (h : ∀ X, EAt X g c i p → w.grownBy X (some g) → wpList Tryd.prog ops Q rest (a.put o.dst undef) X) : wpList Tryd.prog ops Q (o :: rest) a w := by
  refine wpList_store_at hgd 32 x y ho g 0 [.int .i64 c, .int .i64 i, .string p] hx hy 32 [.int .i64 c', .int .i64 i', .string p'] hE size_E (by simp) (by intro v hv; simp at hv; rcases hv with rfl | rfl | rfl <;> rfl) ?_
  exact h _ (setRow_heap _ _ _ _ _ _ hE) ⟨rfl, rfl, rfl, by simp, fun k _ hk => setRow_other w g k _ (fun e => hk (by rw [e]))⟩

set_option maxHeartbeats 4000000 in
theorem none_any (w : World) :
    Calls Tryd.prog 26 #[] w fun e w' => e = .returned (.agg #[.int .i64 0, .int .i64 (-1), .string ⟨#[]⟩]) ∧ Below w.heap.size w w' := by
  go_enter Tryd.func26, Tryd.ntmps26
  go_wp2
  exact bodyPost_ret (results_cell_one rfl _ _ _ ⟨w.heap.size, 0, none⟩ rfl _ (EAt.load (heap_alloc_new _ _))) rfl ⟨rfl, (Below.refl _ w).alloc (Nat.le_refl _) _⟩
set_option maxHeartbeats 4000000 in
theorem tell_nil (w : World) :
    Calls Tryd.prog 9 #[.nilIface] w fun e w' => e = .returned (.agg #[.int .i64 0, .int .i64 (-1), .string ⟨#[]⟩]) ∧ Below w.heap.size w w' := by
  have h1 := none_any (w.alloc (.cells #[.int .i64 0, .int .i64 0, .string ⟨#[]⟩] 32))
  go_enter Tryd.func9, Tryd.ntmps9
  go_wp2_with fail
  refine h1.mono ?_
  rintro e w1 ⟨rfl, hb1⟩
  have hB1 : Below w.heap.size w w1 := ((Below.refl _ w).alloc (Nat.le_refl _) _).trans (hb1.mono (by simp))
  have hR : EAt w1 w.heap.size 0 0 ⟨#[]⟩ := (hb1.block _ (by simp)).trans (heap_alloc_new _ _)
  have HR := Lib.hid hR
  clear h1 hR
  go_upto_region 3 with fail
  have hO : EAt (w1.alloc (.cells #[.int .i64 0, .int .i64 (-1), .string ⟨#[]⟩] 32)) w1.heap.size 0 (-1) ⟨#[]⟩ := heap_alloc_new _ _
  have hR2 := HR.out.below ((Below.refl _ w1).alloc (Nat.le_refl _) (.cells #[.int .i64 0, .int .i64 (-1), .string ⟨#[]⟩] 32))
  have hB2 : Below w.heap.size w (w1.alloc (.cells #[.int .i64 0, .int .i64 (-1), .string ⟨#[]⟩] 32)) := hB1.alloc hB1.size _
  generalize w1.alloc (.cells #[.int .i64 0, .int .i64 (-1), .string ⟨#[]⟩] 32) = w2 at hO hR2 hB2 ⊢
  have c0 := hO.c0
  have c1 := hO.c1
  have c2 := hO.c2
  have HR2 := Lib.hid hR2
  clear hO hR2 HR
  go_wp2_with (refine wpList_store_E rfl (.tmp 2) (.tmp 9) rfl w.heap.size 0 (-1) ⟨#[]⟩ 0 0 ⟨#[]⟩ rfl rfl HR2.out ?_)
  intro X hX hg
  have hb3 := hB2.grown hg hB2.size (fun k hk => by injection hk with hk; omega)
  have HX := Lib.hid hX
  clear hX c0 c1 c2
  go_wp2_with fail
  exact bodyPost_ret (results_cell_one rfl _ _ _ ⟨w.heap.size, 0, none⟩ rfl _ HX.out.load) rfl ⟨rfl, hb3⟩

set_option maxHeartbeats 4000000 in
theorem tell_code (c : Int) (w : World) (hG : ErrT w) :
    Calls Tryd.prog 9 #[.iface 41 (.int .i64 c)] w fun e w' => e = .returned (.agg #[.int .i64 c, .int .i64 (-1), .string ⟨#[]⟩]) ∧ Below w.heap.size w w' := by
  have h1 := none_any (w.alloc (.cells #[.int .i64 0, .int .i64 0, .string ⟨#[]⟩] 32))
  have HG := Lib.hid hG
  clear hG
  go_enter Tryd.func9, Tryd.ntmps9
  go_wp2_with fail
  refine h1.mono ?_
  rintro e w1 ⟨rfl, hb1⟩
  have hB1 : Below w.heap.size w w1 := ((Below.refl _ w).alloc (Nat.le_refl _) _).trans (hb1.mono (by simp))
  have hR : EAt w1 w.heap.size 0 0 ⟨#[]⟩ := (hb1.block _ (by simp)).trans (heap_alloc_new _ _)
  have HR := Lib.hid hR
  clear h1 hR
  go_upto_region 4 with fail
  have hO : EAt (w1.alloc (.cells #[.int .i64 0, .int .i64 (-1), .string ⟨#[]⟩] 32)) w1.heap.size 0 (-1) ⟨#[]⟩ := heap_alloc_new _ _
  have hb12 : Below w1.heap.size w1 (w1.alloc (.cells #[.int .i64 0, .int .i64 (-1), .string ⟨#[]⟩] 32)) := (Below.refl _ w1).alloc (Nat.le_refl _) _
  generalize w1.alloc (.cells #[.int .i64 0, .int .i64 (-1), .string ⟨#[]⟩] 32) = w2 at hO hb12 ⊢
  have hs1 := hB1.size
  have c0 := hO.c0
  have f0 := hO.f0
  have HO := Lib.hid hO
  have HB12 := Lib.hid hb12
  clear hO hb12
  go_upto_region 6 with fail
  have hO3 : EAt ((w2.setCell ⟨w1.heap.size, 0, none⟩ (.int .i64 (-1))).alloc (.cells #[.int .i64 0] 41)) w1.heap.size (-1) (-1) ⟨#[]⟩ := (HO.out.code (-1)).below ((Below.refl _ _).alloc (Nat.le_refl _) _)
  have hC3 : ((w2.setCell ⟨w1.heap.size, 0, none⟩ (.int .i64 (-1))).alloc (.cells #[.int .i64 0] 41)).heap[w2.heap.size]? = some (.cells #[.int .i64 0] 41 (0, 0)) := by
    have := heap_alloc_new (w2.setCell ⟨w1.heap.size, 0, none⟩ (.int .i64 (-1))) (.cells #[.int .i64 0] 41)
    rw [show (w2.setCell ⟨w1.heap.size, 0, none⟩ (.int .i64 (-1))).heap.size = w2.heap.size by simp] at this
    exact this
  have hb2 : Below w.heap.size w w2 := hB1.trans (HB12.out.mono hs1)
  have hB3 : Below w.heap.size w ((w2.setCell ⟨w1.heap.size, 0, none⟩ (.int .i64 (-1))).alloc (.cells #[.int .i64 0] 41)) := (hb2.setCell hs1 _).alloc (hb2.setCell hs1 _).size _
  have hR3 : EAt ((w2.setCell ⟨w1.heap.size, 0, none⟩ (.int .i64 (-1))).alloc (.cells #[.int .i64 0] 41)) w.heap.size 0 0 ⟨#[]⟩ := by
    have h0 := HR.out
    have hlt := blk_lt h0
    have h2 := h0.below HB12.out
    have h3 : EAt (w2.setCell ⟨w1.heap.size, 0, none⟩ (.int .i64 (-1))) w.heap.size 0 0 ⟨#[]⟩ := (Below.heap_setCell _ ⟨w1.heap.size, 0, none⟩ _ _ (by show w.heap.size ≠ w1.heap.size; omega)).trans h2
    exact h3.below ((Below.refl _ _).alloc (Nat.le_refl _) _)
  generalize ((w2.setCell ⟨w1.heap.size, 0, none⟩ (.int .i64 (-1))).alloc (.cells #[.int .i64 0] 41)) = w3 at hO3 hC3 hB3 hR3 ⊢
  have h4 := as_hit_code' c w2.heap.size (.int .i64 0) w3 (HG.out.below hB3) hC3
  have hne : w1.heap.size ≠ w2.heap.size := by have := blk_lt HO.out; omega
  have hne2 : w.heap.size ≠ w2.heap.size := by have := HB12.out.size; have := blk_lt HR.out; omega
  have HO3 := Lib.hid hO3
  have HR3 := Lib.hid hR3
  have HNE := Lib.hid hne
  have HNE2 := Lib.hid hne2
  have hs2 : w.heap.size ≤ w2.heap.size := hb2.size
  clear hO3 hC3 hR3 hne hne2 c0 f0 HR HO
  go_wp2_with fail
  refine h4.mono ?_
  rintro e w4 ⟨rfl, hC4, hg4⟩
  have hO4 : EAt w4 w1.heap.size (-1) (-1) ⟨#[]⟩ := (hg4.block _ (blk_lt HO3.out) (fun e => HNE.out (Option.some.inj e))).trans HO3.out
  have hR4 : EAt w4 w.heap.size 0 0 ⟨#[]⟩ := (hg4.block _ (blk_lt HR3.out) (fun e => HNE2.out (Option.some.inj e))).trans HR3.out
  have hB4 : Below w.heap.size w w4 := hB3.grown hg4 hB3.size (fun k hk => by injection hk with hk; omega)
  have k0 := hO4.c0
  have f0 := hO4.f0
  have kc : w4.cell? ⟨w2.heap.size, 0, none⟩ = some (.int .i64 c) := by rw [blk_cell hC4]; rfl
  have HO4 := Lib.hid hO4
  have HR4 := Lib.hid hR4
  clear hC4 hg4 hO4 hR4 h4 HO3 HR3
  go_upto_region 9 with fail
  have hO5 : EAt ((w4.setCell ⟨w1.heap.size, 0, none⟩ (.int .i64 c)).alloc (.cells #[.pointer none] 39)) w1.heap.size c (-1) ⟨#[]⟩ := (HO4.out.code c).below ((Below.refl _ _).alloc (Nat.le_refl _) _)
  have hF5 : ((w4.setCell ⟨w1.heap.size, 0, none⟩ (.int .i64 c)).alloc (.cells #[.pointer none] 39)).heap[w4.heap.size]? = some (.cells #[.pointer none] 39 (0, 0)) := by
    have := heap_alloc_new (w4.setCell ⟨w1.heap.size, 0, none⟩ (.int .i64 c)) (.cells #[.pointer none] 39)
    rw [show (w4.setCell ⟨w1.heap.size, 0, none⟩ (.int .i64 c)).heap.size = w4.heap.size by simp] at this
    exact this
  have hB5 : Below w.heap.size w ((w4.setCell ⟨w1.heap.size, 0, none⟩ (.int .i64 c)).alloc (.cells #[.pointer none] 39)) := (hB4.setCell hs1 _).alloc (hB4.setCell hs1 _).size _
  have hR5 : EAt ((w4.setCell ⟨w1.heap.size, 0, none⟩ (.int .i64 c)).alloc (.cells #[.pointer none] 39)) w.heap.size 0 0 ⟨#[]⟩ := by
    have hne : w.heap.size ≠ w1.heap.size := by
      have := HB12.out.size
      intro e
      have h0 := HR4.out
      have h1 := HO4.out
      unfold EAt at h0 h1
      rw [e, h1] at h0
      injection h0 with h0
      injection h0 with h0 _ _
      simp at h0
    have h3 : EAt (w4.setCell ⟨w1.heap.size, 0, none⟩ (.int .i64 c)) w.heap.size 0 0 ⟨#[]⟩ := (Below.heap_setCell _ ⟨w1.heap.size, 0, none⟩ _ _ hne).trans HR4.out
    exact h3.below ((Below.refl _ _).alloc (Nat.le_refl _) _)
  generalize ((w4.setCell ⟨w1.heap.size, 0, none⟩ (.int .i64 c)).alloc (.cells #[.pointer none] 39)) = w5 at hO5 hF5 hB5 hR5 ⊢
  have h5 := as_miss_fault' c w4.heap.size (.pointer none) w5 (HG.out.below hB5) hF5
  have HO5 := Lib.hid hO5
  have HR5 := Lib.hid hR5
  clear hO5 hF5 hR5 k0 f0 kc HO4 HR4 HB12
  refine wp_loop_rounds 1 ?_
  rw [rounds_succ]
  go_wp2_with fail
  refine h5.mono ?_
  rintro e w6 ⟨rfl, hb6⟩
  have hO6 := HO5.out.below hb6
  have hR6 := HR5.out.below hb6
  have hB6 : Below w.heap.size w w6 := hB5.trans (hb6.mono hB5.size)
  have d0 := hO6.c0
  have d1 := hO6.c1
  have d2 := hO6.c2
  have HR6 := Lib.hid hR6
  clear h5 hO6 hR6 HO5 HR5
  go_wp2_with (refine wpList_store_E rfl (.tmp 2) (.tmp 67) rfl w.heap.size c (-1) ⟨#[]⟩ 0 0 ⟨#[]⟩ rfl rfl HR6.out ?_)
  intro X hX hg
  have hb7 := hB6.grown hg hB6.size (fun k hk => by injection hk with hk; omega)
  have HX := Lib.hid hX
  clear hX d0 d1 d2
  go_wp2_with fail
  exact bodyPost_ret (results_cell_one rfl _ _ _ ⟨w.heap.size, 0, none⟩ rfl _ HX.out.load) rfl ⟨rfl, hb7⟩

end Go.Proofs.YtmohbbmokcnbhaaDoor
