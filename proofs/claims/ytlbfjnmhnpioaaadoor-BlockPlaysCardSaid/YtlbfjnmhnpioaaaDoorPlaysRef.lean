/-
  What BlockPlays calls: code, and the document's New and Arm.
-/
import Derived.Test.YtlbfjnmhnpioaaaDoorRefAt
import Derived.Test.YtlbfjnmhnpioaaaDoorTell
namespace Go.Proofs.YtlbfjnmhnpioaaaDoor
open Go.RowKit
set_option maxRecDepth 100000
set_option linter.unusedVariables false
set_option linter.unusedSimpArgs false

set_option maxHeartbeats 4000000 in
theorem code_of (v : Value) (c : Int) (w : World) (h : Calls Tryd.prog 19 #[v] w fun e w' => e = .returned (.agg #[.int .i64 c, .int .i64 (-1), .string ⟨#[]⟩]) ∧ Below w.heap.size w w') :
    Calls Tryd.prog 8 #[v] w fun e w' => e = .returned (.int .i64 c) ∧ Below w.heap.size w w' := by
  go_enter Tryd.func8, Tryd.ntmps8
  go_wp2_with fail
  refine h.mono ?_
  rintro e w1 ⟨rfl, hb1⟩
  clear h
  have hb2 : Below w.heap.size w (w1.alloc (.cells #[.int .i64 c, .int .i64 (-1), .string ⟨#[]⟩] 61)) := hb1.alloc hb1.size _
  go_wp2_with fail
  go_ret
  exact ⟨rfl, hb2⟩
theorem code_err (c : Int) (w : World) (hG : ErrT w) : Calls Tryd.prog 8 #[errV c] w fun e w' => e = .returned (.int .i64 c) ∧ Below w.heap.size w w' := by
  unfold errV
  split
  · rename_i h
    subst h
    exact code_of _ _ w (tell_nil w)
  · exact code_of _ _ w (tell_code c w hG)

set_option maxHeartbeats 4000000 in
theorem refNew_no (n : Int) (h : n < 1 ∨ 4096 < n) (w : World) :
    Calls Tryd.prog 7 #[.int .i64 n] w fun e w' => e = .returned (.tuple #[.agg ZD, .int .i64 8]) ∧ Below w.heap.size w w' := by
  have hz := zero_D
  have hld : (loadVar 35 ⟨w.heap.size, 0, none⟩).run Tryd.prog (w.alloc (.cells ZD 35)) = .ok (.agg ZD) (w.alloc (.cells ZD 35)) := load_D (cs := zeroD.cells (.slice none 0 0)) (heap_alloc_new _ _) len_zeroD
  have hb : Below w.heap.size w (w.alloc (.cells ZD 35)) := (Below.refl _ w).alloc (Nat.le_refl _) _
  have hst : ∀ {ops : Array Oper} {rest : List Oper} {o : Oper} {a : Act} {Q : Exit → Act → World → Prop} (hgd : o.guard = none) (x y : Operand) (ho : o.op = .store 35 x y) (hx : a.eval x = .pointer (some ⟨w.heap.size, 0, none⟩)) (hy : a.eval y = .agg ZD)
      (h : wpList Tryd.prog ops Q rest (a.put o.dst undef) (w.alloc (.cells ZD 35))), wpList Tryd.prog ops Q (o :: rest) a (w.alloc (.cells ZD 35)) := by
    intro ops rest o a Q hgd x y ho hx hy h
    refine wpList_store_all hgd 35 x y ho w.heap.size (zeroD.cells (.slice none 0 0)) hx hy 35 _ (alloc_zeroD w) (by rw [len_zeroD]; exact size_D) rfl (DV.one _ _ rfl) ?_
    rw [setRow_new]
    exact h
  have HLD := Lib.hid hld
  clear hld
  rcases h with h | h
  · go_enter Tryd.func7, Tryd.ntmps7
    go_wp2_with (first | (refine wpList_build_eq rfl 35 #[] rfl _ rfl ZD built_ZD ?_) | (refine hst rfl (.tmp 2) (.tmp 10) rfl rfl rfl ?_; refine Hid.out ?_))
    refine Lib.hid ?_
    generalize w.alloc (.cells ZD 35) = X at HLD hb ⊢
    clear hst hz
    go_wp2_with fail
    exact bodyPost_ret (results_cell_tmp rfl _ _ X ⟨w.heap.size, 0, none⟩ rfl (.agg ZD) HLD.out) rfl ⟨rfl, hb⟩
  · have h1 : ¬ n < 1 := by omega
    go_enter Tryd.func7, Tryd.ntmps7
    go_wp2_with (first | (refine wpList_build_eq rfl 35 #[] rfl _ rfl ZD built_ZD ?_) | (refine hst rfl (.tmp 2) (.tmp 10) rfl rfl rfl ?_; refine Hid.out ?_))
    refine Lib.hid ?_
    generalize w.alloc (.cells ZD 35) = X at HLD hb ⊢
    clear hst hz
    go_wp2_with fail
    exact bodyPost_ret (results_cell_tmp rfl _ _ X ⟨w.heap.size, 0, none⟩ rfl (.agg ZD) HLD.out) rfl ⟨rfl, hb⟩

set_option maxHeartbeats 4000000 in
theorem refArm_neg (d : DV) (s : Value) (hb : d.r.b.length = 64) (hs : s.oneCell' = true) (k : Int) (hk : k < 0) (w : World) :
    Calls Tryd.prog 14 #[.agg (d.cells s).toArray, .int .i64 k] w fun e w' => e = .returned (.tuple #[.agg (d.cells s).toArray, .int .i64 8]) ∧ Below w.heap.size w w' := by
  have hz := zero_D
  obtain ⟨hB1, hD1, hZ1, _⟩ := start_D w d s
  generalize hC : (d.cells s).toArray = C at hB1 hD1 hZ1 ⊢
  have HD1 := Lib.hid hD1
  have HZ1 := Lib.hid hZ1
  have HC := Lib.hid hC
  clear hD1 hZ1 hC
  go_enter Tryd.func14, Tryd.ntmps14
  go_upto_region 2 with fail
  generalize ((w.alloc (.cells C 35)).alloc (.cells ZD 35)) = W1 at hB1 HD1 HZ1 ⊢
  refine wp_region_lit ?_
  refine wpList_give d s hb hs w.heap.size (w.heap.size + 1) 8 (.tmp 2) (.tmp 4) HD1.out HZ1.out rfl rfl rfl rfl rfl rfl rfl (by simp) ?_
  intro X hX hg
  have hld := hX.load hb
  have hb3 := hB1.grown hg hB1.size (fun k hk => by injection hk with hk; omega)
  rw [HC.out] at hld
  have HLD := Lib.hid hld
  clear hld hX hz
  rw [HC.out]
  go_wp2_with fail
  exact bodyPost_ret (results_cell_tmp rfl _ _ X ⟨w.heap.size + 1, 0, none⟩ rfl (.agg C) HLD.out) rfl ⟨rfl, hb3⟩
set_option maxHeartbeats 4000000 in
theorem refArm_dead (d : DV) (s : Value) (hb : d.r.b.length = 64) (hs : s.oneCell' = true) (k : Int) (hk : ¬ k < 0) (hd : d.dead = true) (w : World) :
    Calls Tryd.prog 14 #[.agg (d.cells s).toArray, .int .i64 k] w fun e w' => e = .returned (.tuple #[.agg (d.cells s).toArray, .int .i64 19]) ∧ Below w.heap.size w w' := by
  have hz := zero_D
  obtain ⟨hB1, hD1, hZ1, _⟩ := start_D w d s
  have c68 := hD1.cell 68
  rw [d.get68 s hb, hd] at c68
  generalize hC : (d.cells s).toArray = C at hB1 hD1 hZ1 c68 ⊢
  have HD1 := Lib.hid hD1
  have HZ1 := Lib.hid hZ1
  have HC := Lib.hid hC
  have HDD := Lib.hid hd
  clear hD1 hZ1 hC hd
  go_enter Tryd.func14, Tryd.ntmps14
  go_upto_region 3 with fail
  generalize ((w.alloc (.cells C 35)).alloc (.cells ZD 35)) = W1 at hB1 HD1 HZ1 c68 ⊢
  go_upto_region 4 with fail
  refine wp_region_lit ?_
  refine wpList_give d s hb hs w.heap.size (w.heap.size + 1) 11 (.tmp 2) (.tmp 4) HD1.out HZ1.out rfl rfl rfl rfl rfl rfl rfl (by simp) ?_
  intro X hX hg
  have hld := hX.load hb
  have hb3 := hB1.grown hg hB1.size (fun k hk => by injection hk with hk; omega)
  rw [HC.out] at hld
  have HLD := Lib.hid hld
  clear hld hX hz c68
  rw [HC.out]
  go_wp2_with fail
  exact bodyPost_ret (results_cell_tmp rfl _ _ X ⟨w.heap.size + 1, 0, none⟩ rfl (.agg C) HLD.out) rfl ⟨rfl, hb3⟩

/-- Arm: of the document's as of the disk's. -/
theorem refArm_rel {n : Nat} {s : St} {d : DV} {ws : List WV} (h : Rel n s d ws) (sv : Value) (hs : sv.oneCell' = true) (k : Int) (w : World) (hL : LAt w sv ws) :
    Calls Tryd.prog 14 #[.agg (d.cells sv).toArray, .int .i64 k] w fun e w' => ∃ d', e = .returned (.tuple #[.agg (d'.cells sv).toArray, .int .i64 (armC s k)]) ∧ LAt w' sv ws ∧ Rel n (armS s k) d' ws ∧ Below w.heap.size w w' := by
  by_cases hk : k < 0
  · have e1 : armC s k = 8 := by rw [armC, if_pos hk]
    have e2 : armS s k = s := by rw [armS, if_pos (.inl hk)]
    refine (refArm_neg d sv h.rb hs k hk w).mono ?_
    rintro e w' ⟨rfl, hb⟩
    rw [e1, e2]
    exact ⟨d, rfl, hL.below hb, h, hb⟩
  · cases hc : s.c with
    | some kx =>
      have e1 : armC s k = 19 := by rw [armC, if_neg hk, if_pos (by rw [hc]; rfl)]
      have e2 : armS s k = s := by rw [armS, if_pos (.inr (by rw [hc]; rfl))]
      refine (refArm_dead d sv h.rb hs k hk (by rw [h.dead, hc]; rfl) w).mono ?_
      rintro e w' ⟨rfl, hb⟩
      rw [e1, e2]
      exact ⟨d, rfl, hL.below hb, h, hb⟩
    | none =>
      obtain ⟨m, rfl⟩ : ∃ m : Nat, k = (m : Int) := ⟨k.toNat, by omega⟩
      have e1 : armC s m = 0 := by rw [armC, if_neg hk, if_neg (by rw [hc]; simp)]
      refine (refArm_yes d sv h.rb hs m (by rw [h.dead, hc]; rfl) w).mono ?_
      rintro e w' ⟨rfl, hb⟩
      rw [e1]
      exact ⟨_, rfl, hL.below hb, h.arm m hc, hb⟩

end Go.Proofs.YtlbfjnmhnpioaaaDoor
