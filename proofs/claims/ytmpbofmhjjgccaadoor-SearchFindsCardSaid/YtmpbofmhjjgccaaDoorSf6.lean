/- Part 6 of the proof of CardSearchFinds: Stands Fits Del Delete Find Test3 RdS21 FindT Test1. -/
import Derived.Test.YtmpbofmhjjgccaaDoorSf5
import Derived.Test.YtmpbofmhjjgccaaDoorSf1
import Derived.Test.YtmpbofmhjjgccaaDoorShelf
/-
  Does a text stand in another one: the closure of Fits; ContainsFunc over texts.
-/
namespace Go.Proofs.YtmpbofmhjjgccaaDoor
open Go.RowKit
set_option maxRecDepth 100000
set_option linter.unusedVariables false
set_option linter.unusedSimpArgs false

/-- The package's variable of internal/bytealg holds some integer. -/
def MaxAt (w : World) : Prop := ∃ m, w.cell? ⟨1, 0, none⟩ = some (.int .i64 m)
theorem MaxAt.below {w w' : World} (h : MaxAt w) (hb : Below w.heap.size w w') : MaxAt w' := by
  obtain ⟨m, hm⟩ := h
  exact ⟨m, (hb.cell (p := ⟨1, 0, none⟩) (World.block_lt_of_cell? w _ hm)).trans hm⟩

theorem load_oneStr {w : World} {a : Addr} {v : Value} (hc : w.cell? a = some v) : (loadVar 9 a).run Tryd.prog w = .ok v w := by
  simp [loadVar, isAgg, run_underlying Tryd.underlying9, load, hc]
  have hr := run_load (P := Tryd.prog) (w := w) a .plain
  rw [hc] at hr
  exact hr

def standsB (term x : ByteArray) : Bool := Lib.contains (foldS x).data.toList term.data.toList
def valSt (term x : ByteArray) : Nat → Value
  | 0 => .string x
  | 1 => .string (foldS x)
  | 2 => .string term
  | _ => .bool (standsB term x)

set_option maxHeartbeats 4000000 in
theorem stands_any (t : Addr) (term x : ByteArray) (w : World) (hM : MaxAt w) (ht : w.cell? t = some (.string term)) (hx : x.size < 4294967281) :
    Calls Tryd.prog 24 #[.string x, .pointer (some t)] w fun e w' => e = .returned (.bool (standsB term x)) ∧ Below w.heap.size w w' := by
  go_enter Tryd.func24, Tryd.ntmps24
  go_upto_region 1 with fail
  refine wp_name ?_
  intro a0 ha0
  have e0 : a0.eval (.tmp 0) = .string x := by rw [ha0]; rfl
  have e1 : a0.eval (.tmp 1) = .pointer (some t) := by rw [ha0]; rfl
  have hsz : 7 < a0.tmps.size := by rw [ha0]; exact Nat.le_of_ble_eq_true rfl
  refine wp_region_frame rfl [4, 5, 6, 7, 3] (by decide) (ValInv w (valSt term x)) ?_ ?_ ?_ ?_ ?_ ?_
  · intro i o ho
    rcases i with _ | _ | _ | _ | _ | i <;> first | (injection ho with ho; subst ho; rfl) | (simp at ho)
  · intro i o ho
    rcases i with _ | _ | _ | _ | _ | i <;> first | (injection ho with ho; subst ho; rfl) | (simp at ho)
  · intro i o ho
    rcases i with _ | _ | _ | _ | _ | i <;> first | (injection ho with ho; subst ho; simp) | (simp at ho)
  · exact ValInv.start _ _ _
  · intro L vs w' hI jj o ho hLi haf K hK
    rcases jj with _ | _ | _ | _ | _ | jj
    · injection ho with ho; subst ho
      refine BigFrame.wp_move (.tmp 0) rfl ?_
      rw [frameAt_out _ _ _ _ rfl, e0]
      exact hK _ _ (hI.step 0 (Below.refl _ _))
    · injection ho with ho; subst ho
      have l0 := haf ⟨0, .data⟩ (by simp) rfl
      refine wp_call_fnI 23 _ _ rfl Tryd.func23 (by kernel_rfl) (by kernel_rfl) (R := fun v w'' => v = .string (foldS x) ∧ Below w'.heap.size w' w'') ?_ (fun v w'' h => by obtain ⟨rfl, h2⟩ := h; exact hK _ _ (hI.step 1 h2))
      simp only [List.map_toArray, List.map_cons, List.map_nil]
      rw [frameAt_in _ _ _ 4 0 rfl (by omega), hI.vals 0 l0]
      exact (fold_any x w' (by unfold maxLen; omega)).mono fun ev w'' h => ⟨_, h.1, rfl, h.2⟩
    · injection ho with ho; subst ho
      exact wp_loadI 9 (.tmp 1) t _ rfl (by rw [frameAt_out _ _ _ _ rfl]; exact e1) (load_oneStr ((hI.below.cell (World.block_lt_of_cell? w _ ht)).trans ht)) (hK _ _ (hI.step 2 (Below.refl _ _)))
    · injection ho with ho; subst ho
      have l1 := haf ⟨1, .data⟩ (by simp) rfl
      have l2 := haf ⟨2, .data⟩ (by simp) rfl
      refine wp_call_fnI 25 _ _ rfl Tryd.func25 (by kernel_rfl) (by kernel_rfl) (R := fun v w'' => v = .bool (standsB term x) ∧ w'' = w') ?_ (fun v w'' h => by obtain ⟨rfl, rfl⟩ := h; exact hK _ _ (hI.step 3 (Below.refl _ _)))
      simp only [List.map_toArray, List.map_cons, List.map_nil]
      rw [frameAt_in _ _ _ 5 1 rfl (by omega), hI.vals 1 l1, frameAt_in _ _ _ 6 2 rfl (by omega), hI.vals 2 l2]
      obtain ⟨m, hm⟩ := hM.below hI.below
      exact (Tryd.strings_Contains (foldS x) term m w' (by rw [size_foldS]; exact hx) hm).mono fun ev w'' h => ⟨_, h.1, rfl, h.2⟩
    · injection ho with ho; subst ho
      have l3 := haf ⟨3, .data⟩ (by simp) rfl
      refine BigFrame.wp_assign (.tmp 7) rfl ?_
      rw [frameAt_in _ _ _ 7 3 rfl (by omega), hI.vals 3 l3]
      exact hK _ _ (hI.step 4 (Below.refl _ _))
    · simp at ho
  · intro L vs w' hI hall
    have h4 := hI.vals 4 (hall 4 (by decide))
    have hb := hI.below
    rw [frameAt_putAll a0 _ (by decide) vs, ha0]
    change vs 4 = .bool (standsB term x) at h4
    simp only [putAll, h4, Nat.reduceAdd]
    clear hI hall h4 e0 e1 hsz ha0
    change Exit.then _ _ .normal (Act.put (Act.mk _ _) _ _) w'
    simp only [Act.put, List.setIfInBounds_toArray, List.set_cons_succ, List.set_cons_zero]
    go_wp2_with fail
    go_ret
    exact ⟨rfl, hb⟩

/-- Texts in a row. -/
def StrsAt (w : World) (p : Option Addr) (zs : List ByteArray) : Prop := ∀ j s, zs[j]? = some s → ∃ a, p = some a ∧ w.cell? (a.add j) = some (.string s)
theorem StrsAt.below {w w' : World} {p : Option Addr} {zs : List ByteArray} (h : StrsAt w p zs) (hb : Below w.heap.size w w') : StrsAt w' p zs := fun j s hj => by
  obtain ⟨a, h1, h2⟩ := h j s hj
  exact ⟨a, h1, (hb.cell (World.block_lt_of_cell? w _ h2)).trans h2⟩
def idxP (p : ByteArray → Bool) (zs : List ByteArray) : Int := if zs.any p then (zs.findIdx p : Int) else -1

set_option maxHeartbeats 4000000 in
theorem indexFunc_any (A : Option Addr) (zs : List ByteArray) (c : Nat) (t : Addr) (term : ByteArray) (w : World) (hM : MaxAt w) (ht : w.cell? t = some (.string term)) (hz : StrsAt w A zs) (hl : zs.length ≤ 1000) (hs : ∀ s ∈ zs, s.size < 4294967281) :
    Calls Tryd.prog 35 #[.slice A zs.length c, .func (.func 24) #[] #[.pointer (some t)]] w fun e w' => (∃ i : Int, e = .returned (.int .i64 i) ∧ (0 ≤ i ↔ zs.any (standsB term) = true)) ∧ Below w.heap.size w w' := by
  have HZ := Lib.hid hz
  have HS := Lib.hid hs
  have HM := Lib.hid hM
  have HT := Lib.hid ht
  clear hz hs hM ht
  go_enter Tryd.func35, Tryd.ntmps35
  go_wp2_with fail
  go_loopw [8] (fun i wq => ∃ k : Nat, k ≤ zs.length ∧ i = .int .i64 k ∧ Below w.heap.size w wq ∧ Hid ((zs.take k).any (standsB term) = false)) (fun i _ => zs.length - (intOf i).toNat)
  case atStart => exact ⟨0, Nat.zero_le _, rfl, Below.refl _ _, Lib.hid (by simp)⟩
  case round =>
    obtain ⟨k, hk, rfl, hb, hno⟩ := hrel
    by_cases hlt : k < zs.length
    · obtain ⟨x, hx⟩ : ∃ x, zs[k]? = some x := ⟨_, List.getElem?_eq_getElem hlt⟩
      obtain ⟨a, rfl, ha⟩ := HZ.out k x hx
      have ck := (hb.cell (World.block_lt_of_cell? w _ ha)).trans ha
      have h1 := stands_any t term x wr (HM.out.below hb) ((hb.cell (World.block_lt_of_cell? w _ HT.out)).trans HT.out) (HS.out x (List.mem_of_getElem? hx))
      have hsn : (zs.take (k + 1)).any (standsB term) = standsB term x := by
        rw [List.take_add_one, hx, List.any_append, hno.out]
        simp
      have HSN := Lib.hid hsn
      have HX := Lib.hid hx
      clear ha hsn hx
      cases hp : standsB term x
      · rw [hp] at h1 HSN
        clear hp
        go_wp2_with fail
        refine h1.mono ?_
        rintro e w' ⟨rfl, hb1⟩
        have hb2 := hb.trans (hb1.mono hb.size)
        clear h1
        go_wp2_with fail
        go_roundw
        case rel => exact ⟨k + 1, by omega, by go_num, hb2, HSN⟩
        case measure => simp [intOf]; omega
      · rw [hp] at h1
        have hany : zs.any (standsB term) = true := List.any_eq_true.2 ⟨x, List.mem_of_getElem? HX.out, hp⟩
        have HANY := Lib.hid hany
        clear hp hany
        go_wp2_with fail
        refine h1.mono ?_
        rintro e w' ⟨rfl, hb1⟩
        have hb2 := hb.trans (hb1.mono hb.size)
        clear h1
        go_wp2_with fail
        go_ret
        exact ⟨⟨k, rfl, by rw [HANY.out]; simp⟩, hb2⟩
    · have hkz : k = zs.length := by omega
      subst hkz
      go_wp2_with fail
      go_ret
      refine ⟨⟨-1, rfl, ?_⟩, hb⟩
      have := hno.out
      rw [List.take_length] at this
      rw [this]
      simp

set_option maxHeartbeats 4000000 in
theorem containsFunc_any (A : Option Addr) (zs : List ByteArray) (c : Nat) (t : Addr) (term : ByteArray) (w : World) (hM : MaxAt w) (ht : w.cell? t = some (.string term)) (hz : StrsAt w A zs) (hl : zs.length ≤ 1000) (hs : ∀ s ∈ zs, s.size < 4294967281) :
    Calls Tryd.prog 26 #[.slice A zs.length c, .func (.func 24) #[] #[.pointer (some t)]] w fun e w' => e = .returned (.bool (zs.any (standsB term))) ∧ Below w.heap.size w w' := by
  have h1 := indexFunc_any A zs c t term w hM ht hz hl hs
  clear hM ht hz hs
  generalize zs.any (standsB term) = b at h1 ⊢
  generalize zs.length = n at h1 ⊢
  go_enter Tryd.func26, Tryd.ntmps26
  go_wp2_with fail
  refine h1.mono ?_
  rintro e w' ⟨⟨i, rfl, hi⟩, hb⟩
  cases b
  · have hneg : ¬ 0 ≤ i := fun h => by have := hi.1 h; cases this
    clear hi h1
    go_wp2_with fail
    go_ret
    exact ⟨ret_boolF (by simpa using hneg), hb⟩
  · have hpos : 0 ≤ i := hi.2 rfl
    clear hi h1
    go_wp2_with fail
    go_ret
    exact ⟨ret_boolF (by simp), hb⟩

end Go.Proofs.YtmpbofmhjjgccaaDoor
/-
  Fits: a question, a summary.
-/
namespace Go.Proofs.YtmpbofmhjjgccaaDoor
open Go.RowKit
set_option maxRecDepth 100000
set_option linter.unusedVariables false
set_option linter.unusedSimpArgs false

/-- A summary. -/
structure SV where
  room : ByteArray
  typ : ByteArray
  name : ByteArray
  topic : ByteArray
  alias : ByteArray
  avatar : ByteArray
  rule : ByteArray
  joined : Int
  readable : Bool
  guests : Bool
def SV.cells (x : SV) : List Value := [.string x.room, .string x.typ, .string x.name, .string x.topic, .string x.alias, .string x.avatar, .string x.rule, .int .i64 x.joined, .bool x.readable, .bool x.guests]
/-- A question, but for where its types lie. -/
structure QV where
  term : ByteArray
  types : List ByteArray
  limit : Int
  since : Int
def QV.cells (q : QV) (p : Option Addr) (c : Nat) : List Value := [.string q.term, .slice p q.types.length c, .int .i64 q.limit, .int .i64 q.since]
/-- The question's types in memory. -/
def TypesAt (w : World) (p : Option Addr) (ts : List ByteArray) : Prop := ts = [] ∨ ∃ b o, p = some ⟨b, o, none⟩ ∧ ∀ j, j < ts.length → w.cell? ⟨b, o + j, none⟩ = some (.string (ts.getD j ByteArray.empty))
theorem TypesAt.below {w w' : World} {p : Option Addr} {ts : List ByteArray} (h : TypesAt w p ts) (hb : Below w.heap.size w w') : TypesAt w' p ts := by
  rcases h with h | ⟨b, o, h1, h2⟩
  · exact .inl h
  · exact .inr ⟨b, o, h1, fun j hj => (hb.cell (World.block_lt_of_cell? w _ (h2 j hj))).trans (h2 j hj)⟩
def typeB (q : QV) (x : SV) : Bool := q.types.isEmpty || Lib.containsS q.types x.typ
def fitsB (q : QV) (x : SV) : Bool := [x.name, x.topic, x.alias].any (standsB (foldS q.term)) && typeB q x
/-- Its texts aren't too long. -/
structure SmallS (x : SV) : Prop where
  name : x.name.size < 4294967281
  topic : x.topic.size < 4294967281
  alias : x.alias.size < 4294967281

theorem contains_types (q : QV) (p : Option Addr) (c : Nat) (x : ByteArray) (w : World) (hT : TypesAt w p q.types) (hl : q.types.length ≤ 1000) (hne : q.types ≠ []) :
    Calls Tryd.prog 27 #[.slice p q.types.length c, .string x] w fun e w' => e = .returned (.bool (Lib.containsS q.types x)) ∧ w' = w := by
  rcases hT with h | ⟨b, o, rfl, h2⟩
  · exact absurd h hne
  · have := Tryd.slices_Contains_string b o q.types.length c q.types x w (Nat.le_refl _) (by omega) h2
    rw [List.take_length] at this
    exact this

set_option maxHeartbeats 4000000 in
theorem fits_any (q : QV) (p : Option Addr) (c : Nat) (x : SV) (w : World) (hM : MaxAt w) (hT : TypesAt w p q.types) (hl : q.types.length ≤ 1000) (hq : q.term.size ≤ maxLen) (hx : SmallS x) :
    Calls Tryd.prog 12 #[.agg (q.cells p c).toArray, .agg x.cells.toArray] w fun e w' => e = .returned (.bool (fitsB q x)) ∧ Below w.heap.size w w' := by
  have hfold := fun W : World => fold_any q.term W hq
  have HM := Lib.hid hM
  have HT := Lib.hid hT
  have HX := Lib.hid hx
  unfold QV.cells SV.cells
  clear hM hT hx hq
  go_enter Tryd.func12, Tryd.ntmps12
  go_upto_region 1 with fail
  have hb0 : Below w.heap.size w ((w.alloc (.cells #[.string q.term, .slice p q.types.length c, .int .i64 q.limit, .int .i64 q.since] 36)).alloc (.cells #[.string x.room, .string x.typ, .string x.name, .string x.topic, .string x.alias, .string x.avatar, .string x.rule, .int .i64 x.joined, .bool x.readable, .bool x.guests] 49)) := ((Below.refl _ w).alloc (Nat.le_refl _) _).alloc (((Below.refl _ w).alloc (Nat.le_refl _) _).size) _
  have hQ0 : ((w.alloc (.cells #[.string q.term, .slice p q.types.length c, .int .i64 q.limit, .int .i64 q.since] 36)).alloc (.cells #[.string x.room, .string x.typ, .string x.name, .string x.topic, .string x.alias, .string x.avatar, .string x.rule, .int .i64 x.joined, .bool x.readable, .bool x.guests] 49)).heap[w.heap.size]? = some (.cells #[.string q.term, .slice p q.types.length c, .int .i64 q.limit, .int .i64 q.since] 36 (0, 0)) := (heap_alloc_old _ _ (by simp)).trans (heap_alloc_new _ _)
  have hS0 : ((w.alloc (.cells #[.string q.term, .slice p q.types.length c, .int .i64 q.limit, .int .i64 q.since] 36)).alloc (.cells #[.string x.room, .string x.typ, .string x.name, .string x.topic, .string x.alias, .string x.avatar, .string x.rule, .int .i64 x.joined, .bool x.readable, .bool x.guests] 49)).heap[w.heap.size + 1]? = some (.cells #[.string x.room, .string x.typ, .string x.name, .string x.topic, .string x.alias, .string x.avatar, .string x.rule, .int .i64 x.joined, .bool x.readable, .bool x.guests] 49 (0, 0)) := by
    have := heap_alloc_new (w.alloc (.cells #[.string q.term, .slice p q.types.length c, .int .i64 q.limit, .int .i64 q.since] 36)) (.cells #[.string x.room, .string x.typ, .string x.name, .string x.topic, .string x.alias, .string x.avatar, .string x.rule, .int .i64 x.joined, .bool x.readable, .bool x.guests] 49)
    rw [show (w.alloc (.cells #[.string q.term, .slice p q.types.length c, .int .i64 q.limit, .int .i64 q.since] 36)).heap.size = w.heap.size + 1 by simp] at this
    exact this
  generalize ((w.alloc (.cells #[.string q.term, .slice p q.types.length c, .int .i64 q.limit, .int .i64 q.since] 36)).alloc (.cells #[.string x.room, .string x.typ, .string x.name, .string x.topic, .string x.alias, .string x.avatar, .string x.rule, .int .i64 x.joined, .bool x.readable, .bool x.guests] 49)) = W1 at hb0 hQ0 hS0 ⊢
  have k0 : W1.cell? ⟨w.heap.size, 0, none⟩ = some (.string q.term) := by rw [blk_cell hQ0]; rfl
  have HQ0 := Lib.hid hQ0
  have HS0 := Lib.hid hS0
  clear hQ0 hS0
  go_wp2_with fail
  refine (hfold _).mono ?_
  rintro e w2 ⟨rfl, hb2⟩
  have hB2 := hb0.trans (hb2.mono hb0.size)
  have hQ2 := (hb2.block _ (blk_lt HQ0.out)).trans HQ0.out
  have hS2 := (hb2.block _ (blk_lt HS0.out)).trans HS0.out
  clear hfold k0
  generalize hft : foldS q.term = ft
  have HFT := Lib.hid hft
  have hlt2 : w.heap.size + 1 < w2.heap.size := blk_lt hS2
  have s2 : w2.cell? ⟨w.heap.size + 1, 2, none⟩ = some (.string x.name) := by rw [blk_cell hS2]; rfl
  have s3 : w2.cell? ⟨w.heap.size + 1, 3, none⟩ = some (.string x.topic) := by rw [blk_cell hS2]; rfl
  have s4 : w2.cell? ⟨w.heap.size + 1, 4, none⟩ = some (.string x.alias) := by rw [blk_cell hS2]; rfl
  have hb3 : Below w2.heap.size w2 ((w2.alloc (.cells #[.string ft] 9)).alloc (.cells #[.string x.name, .string x.topic, .string x.alias] 9)) := ((Below.refl _ w2).alloc (Nat.le_refl _) _).alloc (((Below.refl _ w2).alloc (Nat.le_refl _) _).size) _
  have hB3 := hB2.trans (hb3.mono hB2.size)
  have ht3 : ((w2.alloc (.cells #[.string ft] 9)).alloc (.cells #[.string x.name, .string x.topic, .string x.alias] 9)).cell? ⟨w2.heap.size, 0, none⟩ = some (.string ft) := by
    have : ((w2.alloc (.cells #[.string ft] 9)).alloc (.cells #[.string x.name, .string x.topic, .string x.alias] 9)).heap[w2.heap.size]? = some (.cells #[.string ft] 9 (0, 0)) := (heap_alloc_old _ _ (by simp)).trans (heap_alloc_new _ _)
    rw [blk_cell this]; rfl
  have hz3 : StrsAt ((w2.alloc (.cells #[.string ft] 9)).alloc (.cells #[.string x.name, .string x.topic, .string x.alias] 9)) (some ⟨w2.heap.size + 1, 0, none⟩) [x.name, x.topic, x.alias] := by
    intro j sj hj
    refine ⟨_, rfl, ?_⟩
    have hh : ((w2.alloc (.cells #[.string ft] 9)).alloc (.cells #[.string x.name, .string x.topic, .string x.alias] 9)).heap[w2.heap.size + 1]? = some (.cells #[.string x.name, .string x.topic, .string x.alias] 9 (0, 0)) := by
      have := heap_alloc_new (w2.alloc (.cells #[.string ft] 9)) (.cells #[.string x.name, .string x.topic, .string x.alias] 9)
      rw [show (w2.alloc (.cells #[.string ft] 9)).heap.size = w2.heap.size + 1 by simp] at this
      exact this
    have ha : (⟨w2.heap.size + 1, 0, none⟩ : Addr).add j = ⟨w2.heap.size + 1, j, none⟩ := by unfold Addr.add; split <;> simp_all
    rw [ha, blk_cell hh]
    match j, hj with
    | 0, hj => simp at hj; subst hj; rfl
    | 1, hj => simp at hj; subst hj; rfl
    | 2, hj => simp at hj; subst hj; rfl
    | j + 3, hj => simp at hj
  have h5 := containsFunc_any (some ⟨w2.heap.size + 1, 0, none⟩) [x.name, x.topic, x.alias] 3 ⟨w2.heap.size, 0, none⟩ ft _ (HM.out.below hB3) ht3 hz3 (by simp) (by
    intro sj hj
    simp at hj
    rcases hj with rfl | rfl | rfl
    · exact HX.out.name
    · exact HX.out.topic
    · exact HX.out.alias)
  change Calls Tryd.prog _ #[.slice _ 3 3, _] _ _ at h5
  have HQ2 := Lib.hid hQ2
  have HS2 := Lib.hid hS2
  have hfits : fitsB q x = ([x.name, x.topic, x.alias].any (standsB ft) && typeB q x) := by rw [← HFT.out]; rfl
  have HFITS := Lib.hid hfits
  clear hft hfits HQ0 HS0 hQ2 hS2 ht3 hz3
  generalize [x.name, x.topic, x.alias].any (standsB ft) = b1 at h5 HFITS
  go_wp2_with fail
  refine h5.mono ?_
  rintro e w5 ⟨rfl, hb5⟩
  have hb25 := hb3.trans (hb5.mono hb3.size)
  have hB5 := hB3.trans (hb5.mono hB3.size)
  clear h5 s2 s3 s4
  cases b1
  · go_wp2_with fail
    go_ret
    exact ⟨by rw [HFITS.out]; rfl, hB5⟩
  · have hQ5 := (hb25.block _ (blk_lt HQ2.out)).trans HQ2.out
    have hS5 := (hb25.block _ (blk_lt HS2.out)).trans HS2.out
    have q1 : w5.cell? ⟨w.heap.size, 1, none⟩ = some (.slice p q.types.length c) := by rw [blk_cell hQ5]; rfl
    have s1 : w5.cell? ⟨w.heap.size + 1, 1, none⟩ = some (.string x.typ) := by rw [blk_cell hS5]; rfl
    by_cases hne : q.types = []
    · have h0 : q.types.length = 0 := by rw [hne]; rfl
      have htB : typeB q x = true := by unfold typeB; rw [hne]; rfl
      rw [htB] at HFITS
      rw [h0] at q1
      clear hQ5 hS5 htB hne
      go_wp2_with fail
      go_ret
      exact ⟨by rw [HFITS.out]; rfl, hB5⟩
    · have h6 := contains_types q p c x.typ w5 (HT.out.below hB5) hl hne
      have htB : typeB q x = Lib.containsS q.types x.typ := by
        unfold typeB
        cases hc : q.types with
        | nil => exact absurd hc hne
        | cons a r => rfl
      rw [htB] at HFITS
      have hlen : ((q.types.length : Int) == 0) = false := by
        rw [beq_eq_false_iff_ne]
        have : q.types.length ≠ 0 := fun e => hne (List.eq_nil_of_length_eq_zero e)
        omega
      clear hQ5 hS5 htB hne
      generalize Lib.containsS q.types x.typ = b2 at h6 HFITS
      go_wp2_with fail
      refine h6.mono ?_
      rintro e w6 ⟨rfl, rfl⟩
      clear h6
      go_wp2_with fail
      go_ret
      exact ⟨by rw [HFITS.out]; rfl, hB5⟩

end Go.Proofs.YtmpbofmhjjgccaaDoor
/-
  The closure of Find; IndexFunc over summaries.
-/
namespace Go.Proofs.YtmpbofmhjjgccaaDoor
open Go.RowKit
set_option maxRecDepth 100000
set_option linter.unusedVariables false
set_option linter.unusedSimpArgs false

theorem size_S : (Tryd.prog.info? 49).map (·.size) = some 10 := by kernel_rfl
/-- The question in a block. -/
def QAt (w : World) (g : Nat) (q : QV) (p : Option Addr) (c : Nat) : Prop := w.heap[g]? = some (.cells (q.cells p c).toArray 36 (0, 0))
theorem QAt.below {w w' : World} {g : Nat} {q : QV} {p : Option Addr} {c : Nat} (h : QAt w g q p c) (hb : Below w.heap.size w w') : QAt w' g q p c := (hb.block g (blk_lt h)).trans h
/-- Summaries in a row of their own. -/
def sumC (l : List SV) : List Value := l.flatMap SV.cells
def RowS (w : World) (g : Nat) (l : List SV) (sp : List Value) : Prop := w.heap[g]? = some (.cells (sumC l ++ sp).toArray 49 (0, 0))
theorem RowS.below {w w' : World} {g : Nat} {l : List SV} {sp : List Value} (h : RowS w g l sp) (hb : Below w.heap.size w w') : RowS w' g l sp := (hb.block g (blk_lt h)).trans h
theorem len_sumC : ∀ l : List SV, (sumC l).length = l.length * 10
  | [] => rfl
  | x :: l => by
    unfold sumC
    rw [List.flatMap_cons, List.length_append, List.length_cons]
    have := len_sumC l
    unfold sumC at this
    rw [this]
    show 10 + _ = _
    omega
theorem sum_get : ∀ (l : List SV) (sp : List Value) (j : Nat) (x : SV) (i : Nat) (v : Value), l[j]? = some x → x.cells[i]? = some v → (sumC l ++ sp)[j * 10 + i]? = some v
  | [], sp, j, x, i, v, h, _ => by simp at h
  | y :: l, sp, 0, x, i, v, h, hi => by
    injection h with h
    subst h
    unfold sumC
    rw [List.flatMap_cons, List.append_assoc, Nat.zero_mul, Nat.zero_add, List.getElem?_append_left (List.getElem?_eq_some_iff.1 hi).1]
    exact hi
  | y :: l, sp, j + 1, x, i, v, h, hi => by
    unfold sumC
    rw [List.flatMap_cons, List.append_assoc, List.getElem?_append_right (by show 10 ≤ _; omega), show (j + 1) * 10 + i - y.cells.length = j * 10 + i by show _ - 10 = _; omega]
    exact sum_get l sp j x i v (by simpa using h) hi
theorem RowS.cell {w : World} {g : Nat} {l : List SV} {sp : List Value} (h : RowS w g l sp) (j : Nat) (x : SV) (hj : l[j]? = some x) (i : Nat) (v : Value) (hi : x.cells[i]? = some v) : w.cell? ⟨g, j * 10 + i, none⟩ = some v := by
  rw [blk_cell h, List.getElem?_toArray]
  exact sum_get l sp j x i v hj hi

set_option maxHeartbeats 4000000 in
theorem del_any (g : Nat) (q : QV) (p : Option Addr) (c : Nat) (x : SV) (w : World) (hQ : QAt w g q p c) (hM : MaxAt w) (hT : TypesAt w p q.types) (hl : q.types.length ≤ 1000) (hq : q.term.size ≤ maxLen) (hx : SmallS x) :
    Calls Tryd.prog 17 #[.agg x.cells.toArray, .pointer (some ⟨g, 0, none⟩)] w fun e w' => e = .returned (.bool (!fitsB q x)) ∧ Below w.heap.size w w' := by
  have hb0 : Below w.heap.size w (w.alloc (.cells x.cells.toArray 49)) := (Below.refl _ w).alloc (Nat.le_refl _) _
  have hQ1 := hQ.below hb0
  have h1 := fits_any q p c x _ (hM.below hb0) (hT.below hb0) hl hq hx
  have q0 : (w.alloc (.cells x.cells.toArray 49)).cell? ⟨g, 0, none⟩ = some (.string q.term) := by rw [blk_cell hQ1]; rfl
  have q1 : (w.alloc (.cells x.cells.toArray 49)).cell? ⟨g, 1, none⟩ = some (.slice p q.types.length c) := by rw [blk_cell hQ1]; rfl
  have q2 : (w.alloc (.cells x.cells.toArray 49)).cell? ⟨g, 2, none⟩ = some (.int .i64 q.limit) := by rw [blk_cell hQ1]; rfl
  have q3 : (w.alloc (.cells x.cells.toArray 49)).cell? ⟨g, 3, none⟩ = some (.int .i64 q.since) := by rw [blk_cell hQ1]; rfl
  have hkk : ∀ j v, x.cells[j]? = some v → (w.alloc (.cells x.cells.toArray 49)).cell? ⟨w.heap.size, 0 + j, none⟩ = some v := fun j v hv => by
    rw [Nat.zero_add, blk_cell (heap_alloc_new w (.cells x.cells.toArray 49)), List.getElem?_toArray]; exact hv
  have h10 : (Tryd.prog.info? 49).map (·.size) = some x.cells.length := size_S
  generalize x.cells = X at h1 hkk h10 hb0 q0 q1 q2 q3 ⊢
  generalize hW : w.alloc (.cells X.toArray 49) = W1 at h1 hkk hb0 q0 q1 q2 q3
  have HKK := Lib.hid hkk
  have H10 := Lib.hid h10
  clear hkk h10 hQ hQ1 hM hT hx
  go_enter Tryd.func17, Tryd.ntmps17
  go_upto_region 1 with fail
  have HW := Lib.hid hW
  clear hW
  generalize hbb : fitsB q x = b at h1
  have HBB := Lib.hid hbb
  clear hbb
  go_wp2_with (refine wpList_load_at rfl 49 (.tmp 2) rfl w.heap.size 0 rfl X _ HKK.out Tryd.underlying49 rfl H10.out ?_)
  refine h1.mono ?_
  rintro e w' ⟨rfl, hb1⟩
  have hb2 := hb0.trans (hb1.mono hb0.size)
  clear h1
  go_wp2_with fail
  go_ret
  exact ⟨by rw [HBB.out]; rfl, hb2⟩

/-- The first that is to go. -/
def firstD (q : QV) (l : List SV) : Int := if l.any (fun x => !fitsB q x) then (l.findIdx (fun x => !fitsB q x) : Int) else -1

set_option maxHeartbeats 4000000 in
theorem indexS_any (g : Nat) (l : List SV) (sp : List Value) (cap : Nat) (qa : Nat) (q : QV) (p : Option Addr) (c : Nat) (w : World) (hR : RowS w g l sp) (hn : l.length ≤ 1000) (hQ : QAt w qa q p c) (hM : MaxAt w) (hT : TypesAt w p q.types) (hl : q.types.length ≤ 1000) (hq : q.term.size ≤ maxLen) (hx : ∀ x ∈ l, SmallS x) :
    Calls Tryd.prog 29 #[.slice (some ⟨g, 0, none⟩) l.length cap, .func (.func 17) #[] #[.pointer (some ⟨qa, 0, none⟩)]] w fun e w' =>
      (∃ i : Int, e = .returned (.int .i64 i) ∧ ((i = -1 ∧ l.all (fitsB q) = true) ∨ (∃ k : Nat, i = k ∧ k < l.length ∧ (l.take k).all (fitsB q) = true ∧ ∃ x, l[k]? = some x ∧ fitsB q x = false))) ∧ Below w.heap.size w w' := by
  have HR := Lib.hid hR
  have HQ := Lib.hid hQ
  have HM := Lib.hid hM
  have HT := Lib.hid hT
  have HX := Lib.hid hx
  have HL := Lib.hid hl
  have HQS := Lib.hid hq
  clear hR hQ hM hT hx hl hq
  go_enter Tryd.func29, Tryd.ntmps29
  go_wp2_with fail
  go_loopw [8] (fun i wq => ∃ k : Nat, k ≤ l.length ∧ i = .int .i64 k ∧ Below w.heap.size w wq ∧ Hid ((l.take k).all (fitsB q) = true)) (fun i _ => l.length - (intOf i).toNat)
  case atStart => exact ⟨0, Nat.zero_le _, rfl, Below.refl _ _, Lib.hid (by simp)⟩
  case round =>
    obtain ⟨k, hk, rfl, hb, hno⟩ := hrel
    by_cases hlt : k < l.length
    · obtain ⟨x, hx⟩ : ∃ x, l[k]? = some x := ⟨_, List.getElem?_eq_getElem hlt⟩
      have h1 := del_any qa q p c x wr (HQ.out.below hb) (HM.out.below hb) (HT.out.below hb) HL.out HQS.out (HX.out x (List.mem_of_getElem? hx))
      have hkk : ∀ j v, x.cells[j]? = some v → wr.cell? ⟨g, k * 10 + j, none⟩ = some v := fun j v hv => (HR.out.below hb).cell k x hx j v hv
      have h10 : (Tryd.prog.info? 49).map (·.size) = some x.cells.length := size_S
      have hsn : (l.take (k + 1)).all (fitsB q) = fitsB q x := by
        rw [List.take_add_one, hx, List.all_append, hno.out]
        simp
      have HSN := Lib.hid hsn
      have HXX := Lib.hid hx
      generalize x.cells = X at h1 hkk h10
      have HKK := Lib.hid hkk
      have H10 := Lib.hid h10
      clear hkk h10 hsn hx
      cases hf : fitsB q x
      · rw [hf] at h1
        have HF := Lib.hid hf
        clear hf
        go_wp2_with (refine wpList_load_at rfl 49 (.tmp 14) rfl g (k * 10) rfl X _ HKK.out Tryd.underlying49 rfl H10.out ?_)
        refine h1.mono ?_
        rintro e w' ⟨rfl, hb1⟩
        have hb2 := hb.trans (hb1.mono hb.size)
        clear h1
        go_wp2_with fail
        go_ret
        exact ⟨⟨k, rfl, .inr ⟨k, rfl, hlt, hno.out, x, HXX.out, HF.out⟩⟩, hb2⟩
      · rw [hf] at h1 HSN
        clear hf
        go_wp2_with (refine wpList_load_at rfl 49 (.tmp 14) rfl g (k * 10) rfl X _ HKK.out Tryd.underlying49 rfl H10.out ?_)
        refine h1.mono ?_
        rintro e w' ⟨rfl, hb1⟩
        have hb2 := hb.trans (hb1.mono hb.size)
        clear h1
        go_wp2_with fail
        go_roundw
        case rel => exact ⟨k + 1, by omega, by go_num, hb2, HSN⟩
        case measure => simp [intOf]; omega
    · have hkz : k = l.length := by omega
      subst hkz
      go_wp2_with fail
      go_ret
      exact ⟨⟨-1, rfl, .inl ⟨rfl, by have := hno.out; rwa [List.take_length] at this⟩⟩, hb⟩

end Go.Proofs.YtmpbofmhjjgccaaDoor
/-
  DeleteFunc over summaries.
-/
namespace Go.Proofs.YtmpbofmhjjgccaaDoor
open Go.RowKit
set_option maxRecDepth 100000
set_option linter.unusedVariables false
set_option linter.unusedSimpArgs false

theorem types_ne' {w : World} {a b : Nat} {ca cb : Array Value} {ta tb : TypeId} (ha : w.heap[a]? = some (.cells ca ta (0, 0))) (hb : w.heap[b]? = some (.cells cb tb (0, 0))) (h : ta ≠ tb) : a ≠ b := by
  rintro rfl
  rw [ha] at hb
  injection hb with hb
  injection hb with _ hb _
  exact h hb
/-- What the closure reads. -/
structure QEnv (w : World) (qa : Nat) (q : QV) (p : Option Addr) (c : Nat) : Prop where
  qAt : QAt w qa q p c
  mAt : MaxAt w
  tAt : TypesAt w p q.types
theorem QEnv.below {w w' : World} {qa : Nat} {q : QV} {p : Option Addr} {c : Nat} (h : QEnv w qa q p c) (hb : Below w.heap.size w w') : QEnv w' qa q p c := ⟨h.qAt.below hb, h.mAt.below hb, h.tAt.below hb⟩
theorem QEnv.keep {w w' : World} {qa : Nat} {q : QV} {p : Option Addr} {c : Nat} (h : QEnv w qa q p c) {g : Nat} (hg : w.grownBy w' (some g)) (h1 : qa ≠ g) (h0 : g ≠ 1) (hp : q.types ≠ [] → ∀ b o, p = some ⟨b, o, none⟩ → b ≠ g) : QEnv w' qa q p c where
  qAt := (hg.block qa (blk_lt h.qAt) (fun e => h1 (Option.some.inj e))).trans h.qAt
  mAt := by
    obtain ⟨m, hm⟩ := h.mAt
    have hlt := World.block_lt_of_cell? w ⟨1, 0, none⟩ hm
    exact ⟨m, (World.cell?_of_block (a := ⟨1, 0, none⟩) (hg.block 1 hlt (fun e => h0 (Option.some.inj e).symm))).trans hm⟩
  tAt := by
    rcases h.tAt with h | ⟨b, o, rfl, h2⟩
    · exact .inl h
    · refine .inr ⟨b, o, rfl, fun j hj => ?_⟩
      have hlt := World.block_lt_of_cell? w ⟨b, o + j, none⟩ (h2 j hj)
      exact (World.cell?_of_block (a := ⟨b, o + j, none⟩) (hg.block b hlt (fun e => hp (by rintro h; rw [h] at hj; simp at hj) b o rfl (Option.some.inj e)))).trans (h2 j hj)

theorem sumC_app (a b : List SV) : sumC (a ++ b) = sumC a ++ sumC b := by unfold sumC; rw [List.flatMap_append]
theorem sumC_cons (x : SV) (l : List SV) : sumC (x :: l) = x.cells ++ sumC l := by unfold sumC; rw [List.flatMap_cons]
theorem sum_set (r : List SV) (sp : List Value) (i : Nat) (x : SV) (hi : i < r.length) : (sumC r ++ sp).take (i * 10) ++ x.cells ++ (sumC r ++ sp).drop (i * 10 + x.cells.length) = sumC (r.set i x) ++ sp := by
  have h1 : (sumC (r.take i)).length = i * 10 := by rw [len_sumC, List.length_take]; omega
  have hx : x.cells.length = 10 := rfl
  have hy : (r[i]).cells.length = 10 := rfl
  have e : sumC r = sumC (r.take i) ++ ((r[i]).cells ++ sumC (r.drop (i + 1))) := by
    rw [← sumC_cons, ← sumC_app]
    congr 1
    rw [← List.drop_eq_getElem_cons hi, List.take_append_drop]
  rw [e]
  have e2 : r.set i x = r.take i ++ x :: r.drop (i + 1) := List.set_eq_take_append_cons_drop .. |>.trans (by rw [if_pos hi])
  rw [e2, sumC_app, sumC_cons, List.append_assoc, List.append_assoc, List.append_assoc]
  rw [List.take_append_of_le_length (by omega), List.take_of_length_le (by omega)]
  rw [List.drop_append, List.drop_eq_nil_of_le (by omega), h1, hx, show i * 10 + 10 - i * 10 = 10 by omega, List.nil_append]
  rw [List.drop_append, List.drop_eq_nil_of_le (by omega), hy, Nat.sub_self, List.drop_zero]
  simp [List.append_assoc]

def zeroSV : SV := ⟨ByteArray.empty, ByteArray.empty, ByteArray.empty, ByteArray.empty, ByteArray.empty, ByteArray.empty, ByteArray.empty, 0, false, false⟩
theorem infoSum : (Tryd.prog.info? 49).map (fun i => (i.zero, i.size, i.bytes)) = some (some (.agg zeroSV.cells.toArray), 10, 128) := by kernel_rfl
theorem one_SV (x : SV) : ∀ v ∈ x.cells, v.oneCell' = true := by intro v hv; simp only [SV.cells, List.mem_cons, List.not_mem_nil, or_false] at hv; rcases hv with rfl | rfl | rfl | rfl | rfl | rfl | rfl | rfl | rfl | rfl <;> rfl
/-- clear of a row's part. -/
theorem run_clear_row {P : Program} (w : World) (t e ty : TypeId) (ht : P.underlying t = some (.slice e)) (i0 : TypeInfo) (hi : P.info? e = some i0) (z : Value) (hz : i0.zero = some z) (hall : ∀ v ∈ z.cells, v.oneCell' = true)
    (g o n c : Nat) (hn : 0 < n) (cur : Array Value) (tt : TypeId) (hg : w.heap[g]? = some (.cells cur tt (0, 0))) (hfit : o + n * z.cells.size ≤ cur.size) :
    (Builtin.clear_ #[t] ty #[.slice (some ⟨g, o, none⟩) n c]).run P w = .ok (.tuple #[]) (w.setRow g (cur.toList.take o ++ (Builtin.zeroCells z.cells n).toList ++ cur.toList.drop (o + n * z.cells.size)).toArray) := by
  have hsz : (Builtin.zeroCells z.cells n).toList.length = n * z.cells.size := by simp [Builtin.zeroCells]
  have h1 : ∀ v ∈ (Builtin.zeroCells z.cells n).toList, v.oneCell' = true := by
    intro v hv
    unfold Builtin.zeroCells at hv
    simp only [Array.toList_map, List.mem_map, Array.mem_toList_iff, Array.mem_range] at hv
    obtain ⟨i, hi, rfl⟩ := hv
    have hpos : 0 < z.cells.size := by
      rcases Nat.eq_zero_or_pos z.cells.size with h | h
      · rw [h] at hi; simp at hi
      · exact h
    have hlt := Nat.mod_lt i hpos
    rw [getElem!_pos z.cells _ hlt]
    exact hall _ (Array.getElem_mem hlt)
  have hst := run_storeCells_at P g o tt (Builtin.zeroCells z.cells n).toList 0 cur w hg (by rw [hsz]; simpa using hfit) h1
  simp only [Nat.add_zero, hsz] at hst
  have hzv : (zeroValue e).run P w = .ok z w := by simp [zeroValue, typeInfo, hi, hz]
  obtain ⟨m, rfl⟩ : ∃ m, n = m + 1 := ⟨n - 1, by omega⟩
  simp [Builtin.clear_, run_underlying ht, hzv, hst]

theorem wpList_clear_row {P : Program} {ops : Array Oper} {rest : List Oper} {o' : Oper} {a : Act} {w : World} {Q : Exit → Act → World → Prop} (hgd : o'.guard = none) (x : Operand) (t : TypeId) (ho : o'.op = .call { callee := .builtin .clear, args := #[x], argTypes := #[t] })
    (e : TypeId) (ht : P.underlying t = some (.slice e)) (i0 : TypeInfo) (hi : P.info? e = some i0) (z : Value) (hz : i0.zero = some z) (hall : ∀ v ∈ z.cells, v.oneCell' = true)
    (g o n c : Nat) (hx : a.eval x = .slice (some ⟨g, o, none⟩) n c) (hn : 0 < n) (cur : Array Value) (tt : TypeId) (hg : w.heap[g]? = some (.cells cur tt (0, 0))) (hfit : o + n * z.cells.size ≤ cur.size)
    (h : ∀ sp, wpList P ops Q rest (a.put o'.dst (.tuple #[])) (w.setRow g (cur.toList.take o ++ sp).toArray)) : wpList P ops Q (o' :: rest) a w := by
  refine wpList_plain hgd fun _ hK => ?_
  have hr := run_clear_row w t e o'.type ht i0 hi z hz hall g o n c hn cur tt hg hfit
  rw [List.append_assoc] at hr
  unfold Oper.wp execOp
  simp only [ho, resolve, invoke, builtin, Sem.run_bind, Sem.run_pure, Result.andThen_ok, List.map_toArray, List.map_cons, List.map_nil, hx, hr]
  exact hK _ _ (h _)

theorem alloc_setRow (w : World) (c d : Array Value) (t : TypeId) : (w.alloc (.cells c t)).setRow w.heap.size d = w.alloc (.cells d t) := by
  unfold World.setRow World.alloc
  simp only
  congr 1
  refine Array.ext (by simp) ?_
  intro i h1 h2
  rw [Array.getElem_modify]
  simp only [Array.getElem_push]
  by_cases e : i < w.heap.size
  · rw [if_neg (by omega)]; simp [e]
  · have e2 : i = w.heap.size := by simp at h2; omega
    subst e2
    simp
theorem wpList_store_new {P : Program} {ops : Array Oper} {rest : List Oper} {o : Oper} {a : Act} {w : World} {Q : Exit → Act → World → Prop} (hgd : o.guard = none) (ty : TypeId) (x y : Operand) (ho : o.op = .store ty x y)
    (w0 : World) (cur : Array Value) (hw : w = w0.alloc (.cells cur ty)) (cs : List Value) (hx : a.eval x = .pointer (some ⟨w0.heap.size, 0, none⟩)) (hy : a.eval y = .agg cs.toArray) (hi : (P.info? ty).map (·.size) = some cs.length)
    (hl : cur.size = cs.length) (h1 : ∀ v ∈ cs, v.oneCell' = true)
    (h : wpList P ops Q rest (a.put o.dst undef) (w0.alloc (.cells cs.toArray ty))) : wpList P ops Q (o :: rest) a w := by
  subst hw
  refine wpList_store_at hgd ty x y ho w0.heap.size 0 cs hx hy ty cur.toList (by simpa using heap_alloc_new w0 (.cells cur ty)) hi (by simp [hl]) h1 ?_
  have e : cur.toList.take 0 ++ cs ++ cur.toList.drop (0 + cs.length) = cs := by rw [List.drop_eq_nil_of_le (by simp [hl])]; simp
  rw [e, alloc_setRow]
  exact h

/-- What stands in the row behind j rounds. -/
structure DelAt (w : World) (g : Nat) (q : QV) (l : List SV) (sp : List Value) (i j : Nat) (r : List SV) : Prop where
  row : RowS w g r sp
  len : r.length = l.length
  pre : r.take i = (l.take j).filter (fitsB q)
  post : ∀ k, j ≤ k → r[k]? = l[k]?
  il : i = ((l.take j).filter (fitsB q)).length
theorem grow2 {a b c : World} {r : Option Nat} (h : a.grownBy b r) (k : b.grownBy c r) : a.grownBy c r :=
  ⟨k.os.trans h.os, k.tape.trans h.tape, k.output.trans h.output, Nat.le_trans h.size k.size, fun q hq hne => (k.block q (Nat.lt_of_lt_of_le hq h.size) hne).trans (h.block q hq hne)⟩
theorem grow_of_below {a b : World} {r : Option Nat} (h : Below a.heap.size a b) : a.grownBy b r := ⟨h.os, h.tape, h.output, h.size, fun q hq _ => h.block q hq⟩

theorem take_snoc {α : Type} (l : List α) (j : Nat) (x : α) (h : l[j]? = some x) : l.take (j + 1) = l.take j ++ [x] := by rw [List.take_add_one, h]; rfl
theorem DelAt.skip {w w' : World} {g : Nat} {q : QV} {l : List SV} {sp : List Value} {i j : Nat} {r : List SV} (h : DelAt w g q l sp i j r) (x : SV) (hx : l[j]? = some x) (hf : fitsB q x = false) (hr : RowS w' g r sp) : DelAt w' g q l sp i (j + 1) r := by
  have e : (l.take (j + 1)).filter (fitsB q) = (l.take j).filter (fitsB q) := by rw [take_snoc l j x hx, List.filter_append]; simp [hf]
  exact ⟨hr, h.len, by rw [e]; exact h.pre, fun k hk => h.post k (by omega), by rw [e]; exact h.il⟩
theorem DelAt.keep {w w' : World} {g : Nat} {q : QV} {l : List SV} {sp : List Value} {i j : Nat} {r : List SV} (h : DelAt w g q l sp i j r) (hij : i < j) (x : SV) (hx : l[j]? = some x) (hf : fitsB q x = true) (hr : RowS w' g (r.set i x) sp) : DelAt w' g q l sp (i + 1) (j + 1) (r.set i x) := by
  have e : (l.take (j + 1)).filter (fitsB q) = (l.take j).filter (fitsB q) ++ [x] := by rw [take_snoc l j x hx, List.filter_append]; simp [hf]
  have hjl := (List.getElem?_eq_some_iff.1 hx).1
  have hir : i < r.length := by rw [h.len]; omega
  refine ⟨hr, by rw [List.length_set]; exact h.len, ?_, fun k hk => ?_, by rw [e, List.length_append, ← h.il]; rfl⟩
  · rw [e, ← h.pre, take_snoc (r.set i x) i x (by rw [List.getElem?_set_self hir]), List.take_set_of_le (Nat.le_refl _)]
  · rw [List.getElem?_set_ne (by omega)]
    exact h.post k (by omega)

set_option maxHeartbeats 8000000 in
theorem deleteS_any (g : Nat) (l : List SV) (sp : List Value) (cap : Nat) (qa : Nat) (q : QV) (p : Option Addr) (c : Nat) (w : World) (hR : RowS w g l sp) (hn : l.length ≤ 1000) (hcap : l.length ≤ cap) (hE : QEnv w qa q p c) (hl : q.types.length ≤ 1000) (hq : q.term.size ≤ maxLen) (hx : ∀ x ∈ l, SmallS x)
    (h0 : g ≠ 1) (hp : q.types ≠ [] → ∀ b o, p = some ⟨b, o, none⟩ → b ≠ g) :
    Calls Tryd.prog 15 #[.slice (some ⟨g, 0, none⟩) l.length cap, .func (.func 17) #[] #[.pointer (some ⟨qa, 0, none⟩)]] w fun e w' =>
      e = .returned (.slice (some ⟨g, 0, none⟩) (l.filter (fitsB q)).length cap) ∧ (∃ sp', RowS w' g (l.filter (fitsB q)) sp') ∧ w.grownBy w' (some g) := by
  have hqg : qa ≠ g := types_ne' hE.qAt hR (by decide)
  have h1 := indexS_any g l sp cap qa q p c w hR hn hE.qAt hE.mAt hE.tAt hl hq hx
  have HR := Lib.hid hR
  have HE := Lib.hid hE
  have HX := Lib.hid hx
  have HP := Lib.hid hp
  have HL := Lib.hid hl
  have HQS := Lib.hid hq
  clear hR hE hx hp hl hq
  go_enter Tryd.func15, Tryd.ntmps15
  go_wp2_with fail
  refine h1.mono ?_
  rintro e w1 ⟨⟨i0, rfl, hcase⟩, hb1⟩
  clear h1
  rcases hcase with ⟨rfl, hall⟩ | ⟨k0, rfl, hk0, hpre, x0, hx0, hf0⟩
  · have hfl : l.filter (fitsB q) = l := List.filter_eq_self.2 (by simpa using hall)
    have HF := Lib.hid hfl
    clear hall hfl
    go_wp2_with fail
    go_ret
    exact ⟨by rw [HF.out]; rfl, ⟨sp, by rw [HF.out]; exact HR.out.below hb1⟩, grow_of_below hb1⟩
  · have hk1 : ((k0 : Int) == -1) = false := by rw [beq_eq_false_iff_ne]; omega
    have hD0 : DelAt w1 g q l sp k0 (k0 + 1) l := by
      have hft : (l.take (k0 + 1)).filter (fitsB q) = l.take k0 := by
        rw [List.take_add_one, hx0, List.filter_append, List.filter_eq_self.2 (by simpa using hpre)]
        simp [hf0]
      exact ⟨HR.out.below hb1, rfl, hft.symm, fun k _ => rfl, by rw [hft, List.length_take]; omega⟩
    have HD0 := Lib.hid hD0
    have hE1 := HE.out.below hb1
    have HE1 := Lib.hid hE1
    have hg1 : w.grownBy w1 (some g) := grow_of_below hb1
    clear hpre hx0 hf0 hD0 hE1
    go_wp2_with fail
    go_loopw [6, 5] (fun jv iv wq => ∃ (i j : Nat) (r : List SV), j ≤ l.length ∧ i < j ∧ jv = .int .i64 j ∧ iv = .int .i64 i ∧ Hid (DelAt wq g q l sp i j r) ∧ Hid (QEnv wq qa q p c) ∧ w.grownBy wq (some g)) (fun jv iv _ => l.length - (intOf jv).toNat)
    case atStart => exact ⟨k0, k0 + 1, l, by omega, by omega, by go_num, rfl, HD0, HE1, hg1⟩
    case round =>
      obtain ⟨i, j, r, hj, hij, rfl, rfl, hD, hEq, hgr⟩ := hrel
      clear HD0 HE1 hg1 hb1 hk1
      by_cases hlt : j < l.length
      · obtain ⟨x, hx⟩ : ∃ x, l[j]? = some x := ⟨_, List.getElem?_eq_getElem hlt⟩
        have hrj : r[j]? = some x := by rw [hD.out.post j (Nat.le_refl _)]; exact hx
        have hkk : ∀ m v, x.cells[m]? = some v → wr.cell? ⟨g, j * 10 + m, none⟩ = some v := fun m v hv => hD.out.row.cell j x hrj m v hv
        have h10 : (Tryd.prog.info? 49).map (·.size) = some x.cells.length := size_S
        have hbA : Below wr.heap.size wr (wr.alloc (.cells x.cells.toArray 49)) := (Below.refl _ wr).alloc (Nat.le_refl _) _
        have hEA := hEq.out.below hbA
        have h1 := del_any qa q p c x _ hEA.qAt hEA.mAt hEA.tAt HL.out HQS.out (HX.out x (List.mem_of_getElem? hx))
        have hkA : ∀ m v, x.cells[m]? = some v → (wr.alloc (.cells x.cells.toArray 49)).cell? ⟨wr.heap.size, 0 + m, none⟩ = some v := fun m v hv => by
          rw [Nat.zero_add, blk_cell (heap_alloc_new wr _), List.getElem?_toArray]; exact hv
        have hX1 : ∀ v ∈ x.cells, v.oneCell' = true := one_SV x
        have hlen10 : x.cells.length = 10 := rfl
        obtain ⟨X, hX⟩ : ∃ X, X = x.cells := ⟨_, rfl⟩
        have HXC := Lib.hid hX
        rw [← hX] at h1 hkk h10 hkA hX1 hbA hEA hlen10
        have HKK := Lib.hid hkk
        have H10 := Lib.hid h10
        have HKA := Lib.hid hkA
        have HX1 := Lib.hid hX1
        have HEA := Lib.hid hEA
        have HXX := Lib.hid hx
        have HRJ := Lib.hid hrj
        have HL10 := Lib.hid hlen10
        clear hkk h10 hkA hX1 hEA hx hrj hX hlen10
        cases hf : fitsB q x
        · rw [hf] at h1
          have HF := Lib.hid hf
          clear hf
          go_wp2_with (first | (refine wpList_load_at rfl 49 (.tmp 24) rfl g (j * 10) rfl X _ HKK.out Tryd.underlying49 rfl H10.out ?_) | (refine wpList_store_new rfl 49 (.tmp 7) (.tmp 25) rfl wr _ rfl X rfl rfl H10.out HL10.out.symm HX1.out ?_) | (refine wpList_load_at rfl 49 (.tmp 7) rfl wr.heap.size 0 rfl X _ HKA.out Tryd.underlying49 rfl H10.out ?_))
          refine h1.mono ?_
          rintro e w' ⟨rfl, hb1⟩
          clear h1
          have hb2 := hbA.trans (hb1.mono hbA.size)
          go_wp2_with fail
          go_roundw
          case rel => exact ⟨i, j + 1, r, by omega, by omega, by go_num, rfl, Lib.hid (hD.out.skip x HXX.out HF.out (hD.out.row.below hb2)), Lib.hid (hEq.out.below hb2), grow2 hgr (grow_of_below hb2)⟩
          case measure => simp [intOf]; omega
        · rw [hf] at h1
          have HF := Lib.hid hf
          clear hf
          go_wp2_with (first | (refine wpList_load_at rfl 49 (.tmp 24) rfl g (j * 10) rfl X _ HKK.out Tryd.underlying49 rfl H10.out ?_) | (refine wpList_store_new rfl 49 (.tmp 7) (.tmp 25) rfl wr _ rfl X rfl rfl H10.out HL10.out.symm HX1.out ?_) | (refine wpList_load_at rfl 49 (.tmp 7) rfl wr.heap.size 0 rfl X _ HKA.out Tryd.underlying49 rfl H10.out ?_))
          refine h1.mono ?_
          rintro e w' ⟨rfl, hb1⟩
          clear h1
          have hb2 := hbA.trans (hb1.mono hbA.size)
          have hkB : ∀ m v, X[m]? = some v → w'.cell? ⟨wr.heap.size, 0 + m, none⟩ = some v := fun m v hv => (hb1.cell (World.block_lt_of_cell? _ _ (HKA.out m v hv))).trans (HKA.out m v hv)
          have HKB := Lib.hid hkB
          have hrow := hD.out.row.below hb2
          have HROW := Lib.hid (show w'.heap[g]? = some (.cells (sumC r ++ sp).toArray 49 (0, 0)) from hrow)
          clear hkB hrow
          have hrl : i < r.length := by rw [hD.out.len]; omega
          have hset := sum_set r sp i x hrl
          rw [← HXC.out] at hset
          have hfit : i * 10 + X.length ≤ (sumC r ++ sp).length := by rw [HL10.out, List.length_append, len_sumC]; omega
          have HFIT := Lib.hid hfit
          have HSET := Lib.hid hset
          clear hset hfit
          go_wp2_with (first | (refine wpList_load_at rfl 49 (.tmp 7) rfl wr.heap.size 0 rfl X _ HKB.out Tryd.underlying49 rfl H10.out ?_) | (refine wpList_store_at rfl 49 (.tmp 33) (.tmp 32) rfl g (i * 10) X rfl rfl 49 _ HROW.out H10.out HFIT.out HX1.out ?_; rw [HSET.out]))
          go_roundw
          case rel =>
            have hgs : w'.grownBy (w'.setRow g (sumC (r.set i x) ++ sp).toArray) (some g) := ⟨rfl, rfl, rfl, by simp, fun k _ hk => setRow_other w' g k _ (fun e => hk (by rw [e]))⟩
            exact ⟨i + 1, j + 1, r.set i x, by omega, by omega, by go_num, by go_num, Lib.hid (hD.out.keep hij x HXX.out HF.out (setRow_heap w' g _ _ _ _ HROW.out)), Lib.hid ((hEq.out.below hb2).keep hgs hqg h0 HP.out), grow2 (grow2 hgr (grow_of_below hb2)) hgs⟩
          case measure => simp [intOf]; omega
      · have hjl : j = l.length := by omega
        subst hjl
        obtain ⟨zi, hzi, hz, hzs, hzb⟩ := info_parts infoSum
        have HZI := Lib.hid hzi
        have HZ := Lib.hid hz
        have hzo : ∀ v ∈ (Value.agg zeroSV.cells.toArray).cells, v.oneCell' = true := fun v hv => one_SV zeroSV v (by simpa [Value.cells] using hv)
        have hrow := hD.out.row
        have HROW := Lib.hid (show wr.heap[g]? = some (.cells (sumC r ++ sp).toArray 49 (0, 0)) from hrow)
        clear hzi hz hzs hzb hrow
        have hpos : 0 < l.length - i := by omega
        go_wp2_with (refine wpList_clear_row rfl (.tmp 38) 28 rfl 49 Tryd.underlying28 zi HZI.out _ HZ.out hzo g (i * 10) (l.length - i) (cap - i) rfl hpos _ _ HROW.out (by simp [Value.cells, len_sumC, hD.out.len, show zeroSV.cells.length = 10 from rfl]; omega) ?_; intro sp2)
        go_ret
        have hil : i = (l.filter (fitsB q)).length := by rw [hD.out.il, List.take_length]
        refine ⟨by rw [← hil]; rfl, ?_, grow2 hgr ⟨rfl, rfl, rfl, by simp, fun k _ hk => setRow_other wr g k _ (fun e => hk (by rw [e]))⟩⟩
        refine ⟨sp2, (setRow_heap wr g _ _ _ _ HROW.out).trans ?_⟩
        have hpre := hD.out.pre
        rw [List.take_length] at hpre
        have h1 : (sumC (r.take i)).length = i * 10 := by rw [len_sumC, List.length_take, hD.out.len]; omega
        have e : (sumC r ++ sp).take (i * 10) = sumC (l.filter (fitsB q)) := by
          rw [← hpre]
          have e1 : sumC r = sumC (r.take i) ++ sumC (r.drop i) := by rw [← sumC_app, List.take_append_drop]
          rw [e1, List.append_assoc, ← h1, List.take_left]
        rw [show (List.take (i * 10) (sumC r ++ sp) ++ sp2) = sumC (l.filter (fitsB q)) ++ sp2 by rw [e]]

set_option maxHeartbeats 4000000 in
theorem indexS_nil (qa : Nat) (w : World) :
    Calls Tryd.prog 29 #[.slice none 0 0, .func (.func 17) #[] #[.pointer (some ⟨qa, 0, none⟩)]] w fun e w' => e = .returned (.int .i64 (-1)) ∧ w' = w := by
  go_enter Tryd.func29, Tryd.ntmps29
  go_wp2_with fail
  go_loopw [8] (fun i wq => i = .int .i64 0 ∧ wq = w) (fun i _ => 0)
  case atStart => exact ⟨rfl, rfl⟩
  case round =>
    obtain ⟨rfl, rfl⟩ := hrel
    go_wp2_with fail
    go_ret
    exact ⟨rfl, rfl⟩

set_option maxHeartbeats 4000000 in
theorem deleteS_nil (qa : Nat) (w : World) :
    Calls Tryd.prog 15 #[.slice none 0 0, .func (.func 17) #[] #[.pointer (some ⟨qa, 0, none⟩)]] w fun e w' => e = .returned (.slice none 0 0) ∧ w' = w := by
  have h1 := indexS_nil qa w
  go_enter Tryd.func15, Tryd.ntmps15
  go_wp2_with fail
  refine h1.mono ?_
  rintro e w1 ⟨rfl, rfl⟩
  clear h1
  go_wp2_with fail
  go_ret
  exact ⟨rfl, rfl⟩

end Go.Proofs.YtmpbofmhjjgccaaDoor
/-
  Clone and Find.
-/
namespace Go.Proofs.YtmpbofmhjjgccaaDoor
open Go.RowKit
set_option maxRecDepth 100000
set_option linter.unusedVariables false
set_option linter.unusedSimpArgs false

/-- Summaries in a row, or none. -/
def InAt (w : World) (v : Value) (l : List SV) : Prop := (v = .slice none 0 0 ∧ l = []) ∨ ∃ g cap sp, v = .slice (some ⟨g, 0, none⟩) l.length cap ∧ 0 < l.length ∧ RowS w g l sp
theorem InAt.below {w w' : World} {v : Value} {l : List SV} (h : InAt w v l) (hb : Below w.heap.size w w') : InAt w' v l := by
  rcases h with h | ⟨g, cap, sp, h1, h2, h3⟩
  · exact .inl h
  · exact .inr ⟨g, cap, sp, h1, h2, h3.below hb⟩

/-- The same, cell by cell, wherever the row lies. -/
def InC (w : World) (v : Value) (l : List SV) : Prop := (v = .slice none 0 0 ∧ l = []) ∨ ∃ g o cap, v = .slice (some ⟨g, o, none⟩) l.length cap ∧ ∀ k u, (sumC l)[k]? = some u → w.cell? ⟨g, o + k, none⟩ = some u
theorem InC.below {w w' : World} {v : Value} {l : List SV} (h : InC w v l) (hb : Below w.heap.size w w') : InC w' v l := by
  rcases h with h | ⟨g, o, cap, h1, h2⟩
  · exact .inl h
  · exact .inr ⟨g, o, cap, h1, fun k u hk => (hb.cell (World.block_lt_of_cell? w _ (h2 k u hk))).trans (h2 k u hk)⟩
theorem InAt.toC {w : World} {v : Value} {l : List SV} (h : InAt w v l) : InC w v l := by
  rcases h with h | ⟨g, cap, sp, h1, h2, h3⟩
  · exact .inl h
  · refine .inr ⟨g, 0, cap, h1, fun k u hk => ?_⟩
    have hlt : k < (sumC l).length := (List.getElem?_eq_some_iff.1 hk).1
    rw [Nat.zero_add, blk_cell h3, List.getElem?_toArray, List.getElem?_append_left hlt]
    exact hk
/-- The same, of a row that lies behind a bound. -/
def RowOwn (w : World) (base : Nat) (v : Value) (l : List SV) : Prop := (v = .slice none 0 0 ∧ l = []) ∨ ∃ g cap sp, v = .slice (some ⟨g, 0, none⟩) l.length cap ∧ l.length ≤ cap ∧ RowS w g l sp ∧ base ≤ g
theorem own_row {w : World} {base : Nat} {v : Value} {l : List SV} (h : w.ownsRow base 49 10 v l.length (sumC l)) : RowOwn w base v l := by
  obtain ⟨hl, h⟩ := h
  rcases h with ⟨hv, h0⟩ | ⟨b, cap, cur, rfl, hb, hh, hnc, _, hs, ht⟩
  · exact .inl ⟨hv, List.eq_nil_of_length_eq_zero h0⟩
  · refine .inr ⟨b, cap, cur.toList.drop (l.length * 10), rfl, hnc, ?_, hb⟩
    unfold RowS
    rw [hh, ← ht, List.take_append_drop]

theorem own_laid {w : World} {base e size n : Nat} {v : Value} {xs : List Value} (h : w.ownsRow base e size v n xs) (hn : 0 < n) :
    ∃ b cap sp, v = .slice (some ⟨b, 0, none⟩) n cap ∧ base ≤ b ∧ n ≤ cap ∧ w.heap[b]? = some (.cells (xs ++ sp).toArray e (0, 0)) := by
  obtain ⟨hl, h⟩ := h
  rcases h with ⟨_, h0⟩ | ⟨b, cap, cur, rfl, hb, hh, hnc, _, hs, ht⟩
  · omega
  · refine ⟨b, cap, cur.toList.drop (n * size), rfl, hb, hnc, ?_⟩
    rw [hh, ← ht, List.take_append_drop]

set_option maxHeartbeats 4000000 in
theorem clone_nil (w : World) :
    Calls Tryd.prog 16 #[.slice none 0 0] w fun e w' => e = .returned (.slice none 0 0) ∧ w' = w := by
  have hnl := fun W => Lib.run_eql_slice_nil (P := Tryd.prog) W 28 49 none 0 0 0 0 Tryd.underlying28
  go_enter Tryd.func16, Tryd.ntmps16
  go_wp2_with fail
  go_ret
  exact ⟨rfl, rfl⟩

set_option maxHeartbeats 4000000 in
theorem clone_row (g o : Nat) (l : List SV) (cap : Nat) (w : World) (hR : ∀ k u, (sumC l)[k]? = some u → w.cell? ⟨g, o + k, none⟩ = some u) (hn : l.length ≤ 1000) :
    Calls Tryd.prog 16 #[.slice (some ⟨g, o, none⟩) l.length cap] w fun e w' =>
      (∃ v', e = .returned v' ∧ RowOwn w' w.heap.size v' l) ∧ Below w.heap.size w w' := by
  obtain ⟨i0, hi, hz0, hz1, hz2⟩ := info_parts infoSum
  have hnl := fun W => Lib.run_eql_slice_nil (P := Tryd.prog) W 28 49 (some ⟨g, o, none⟩) l.length cap 0 0 Tryd.underlying28
  have HR := Lib.hid hR
  have HI := Lib.hid hi
  have HZ := Lib.hid hz0
  clear hR hi hz0
  have h1 : ∀ u ∈ sumC l, u.oneCell' = true := by
    intro u hu
    unfold sumC at hu
    obtain ⟨x, _, hu⟩ := List.mem_flatMap.1 hu
    exact one_SV x u hu
  have H1 := Lib.hid h1
  clear h1
  go_enter Tryd.func16, Tryd.ntmps16
  go_upto_region 3 with fail
  have hb1 : Below w.heap.size w (w.alloc (.cells #[] 49)) := (Below.refl _ w).alloc (Nat.le_refl _) _
  have hown : (w.alloc (.cells #[] 49)).ownsRow w.heap.size 49 10 (.slice (some ⟨w.heap.size, 0, none⟩) 0 0) 0 [] :=
    ⟨rfl, .inr ⟨w.heap.size, 0, #[], rfl, Nat.le_refl _, heap_alloc_new _ _, Nat.le_refl _, Nat.zero_le _, rfl, rfl⟩⟩
  have HO := Lib.hid hown
  clear hown
  go_wp2_with (at_builtin; go_loud (refine wpList_append_own _ rfl (.tmp 5) (.tmp 6) 28 rfl w.heap.size 49 i0 _ 10 128 Tryd.underlying28 HI.out HZ.out hz1 hz2 rfl (by decide) (.slice (some ⟨w.heap.size, 0, none⟩) 0 0) 0 [] rfl HO.out ⟨g, o, none⟩ l.length cap (sumC l) rfl (len_sumC l) ?hn H1.out ?h6 ?h7 (by simp) ?hk))
  case hn =>
    intro j u hj
    have hc := HR.out j u hj
    rw [addr_add]
    exact (hb1.cell (World.block_lt_of_cell? w _ hc)).trans hc
  case h6 => unfold maxLen; omega
  case h7 => omega
  case hk =>
    intro v' w' ho hg _
    go_wp2
    go_ret
    refine ⟨⟨_, rfl, own_row ho⟩, hb1.grown hg (by simp) (fun k hk => ?_)⟩
    simp [Value.ownBlock] at hk
    omega

theorem clone_in (v : Value) (l : List SV) (w : World) (hI : InC w v l) (hn : l.length ≤ 1000) :
    Calls Tryd.prog 16 #[v] w fun e w' => (∃ v', e = .returned v' ∧ RowOwn w' w.heap.size v' l) ∧ Below w.heap.size w w' := by
  rcases hI with ⟨rfl, rfl⟩ | ⟨g, o, cap, rfl, hR⟩
  · refine (clone_nil w).mono ?_
    rintro e w' ⟨rfl, rfl⟩
    exact ⟨⟨_, rfl, .inl ⟨rfl, rfl⟩⟩, Below.refl _ _⟩
  · exact clone_row g o l cap w hR hn
/-- Rooms, in memory. -/
def RoomsAt (w : World) (p : Option Addr) (l : List SV) : Prop := l = [] ∨ ∃ g o, p = some ⟨g, o, none⟩ ∧ ∀ j x i u, l[j]? = some x → x.cells[i]? = some u → w.cell? ⟨g, o + (j * 10 + i), none⟩ = some u
theorem delete_in (v : Value) (l : List SV) (base : Nat) (qa : Nat) (q : QV) (p : Option Addr) (c : Nat) (w : World) (hO : RowOwn w base v l) (hn : l.length ≤ 1000) (hE : QEnv w qa q p c) (hl : q.types.length ≤ 1000) (hq : q.term.size ≤ maxLen) (hx : ∀ x ∈ l, SmallS x)
    (h0 : 1 < base) (hbs : base ≤ w.heap.size) (hp : q.types ≠ [] → ∀ b o, p = some ⟨b, o, none⟩ → b < base) :
    Calls Tryd.prog 15 #[v, .func (.func 17) #[] #[.pointer (some ⟨qa, 0, none⟩)]] w fun e w' =>
      (∃ g cap, (e = .returned (.slice (g.map fun g => ⟨g, 0, none⟩) (l.filter (fitsB q)).length cap) ∧ (l.filter (fitsB q)).length ≤ cap ∧ (∀ b, g = some b → base ≤ b ∧ b < w'.heap.size) ∧ (g = none → cap = 0)) ∧ RoomsAt w' (g.map fun g => ⟨g, 0, none⟩) (l.filter (fitsB q))) ∧ Below base w w' := by
  rcases hO with ⟨rfl, rfl⟩ | ⟨g, cap, sp, rfl, h1, hR, hg⟩
  · refine (deleteS_nil qa w).mono ?_
    rintro e w' ⟨rfl, rfl⟩
    exact ⟨⟨none, 0, ⟨rfl, Nat.le_refl _, by simp, fun _ => rfl⟩, .inl rfl⟩, Below.refl _ _⟩
  · refine (deleteS_any g l sp cap qa q p c w hR hn h1 hE hl hq hx (by omega) (fun h0 b o hb => by have := hp h0 b o hb; omega)).mono ?_
    rintro e w' ⟨rfl, ⟨sp', hR'⟩, hgr⟩
    refine ⟨⟨some g, cap, ⟨rfl, Nat.le_trans (List.length_filter_le _ _) h1, by rintro b ⟨⟩; exact ⟨hg, blk_lt hR'⟩, by simp⟩, .inr ⟨g, 0, rfl, fun j x i u hj hi => ?_⟩⟩, ⟨hgr.os, hgr.tape, hgr.output, hgr.size, fun k hk => ?_⟩⟩
    · rw [Nat.zero_add]
      exact hR'.cell j x hj i u hi
    · by_cases hkg : k = g
      · omega
      · exact hgr.block k (by omega) (fun e => hkg (Option.some.inj e))

def fitL (q : QV) (l : List SV) : List SV := l.filter (fitsB q)
def restL (q : QV) (l : List SV) : List SV := (fitL q l).drop (min q.since.toNat (fitL q l).length)
def pageL (q : QV) (l : List SV) : List SV := (restL q l).take (min q.limit.toNat (restL q l).length)
def nextI (q : QV) (l : List SV) : Int := if q.limit < (restL q l).length then q.since + q.limit else -1
def prevI (q : QV) : Int := if 0 < q.since then max 0 (q.since - q.limit) else -1

def subP (gg : Option Nat) (cap : Nat) (k : Int) : Option Addr := if cap = k.toNat then Option.map (fun g : Nat => (⟨g, 0, none⟩ : Addr)) gg else Option.map ((fun x : Addr => x.add (k.toNat * 10)) ∘ fun g : Nat => (⟨g, 0, none⟩ : Addr)) gg
theorem rooms_page (W : World) (gg : Option Nat) (l : List SV) (q : QV) (cap : Nat) (h : RoomsAt W (gg.map fun g => ⟨g, 0, none⟩) (fitL q l)) (h3 : 0 ≤ q.since) (hcap : (fitL q l).length ≤ cap) :
    RoomsAt W (subP gg cap (min q.since (fitL q l).length)) (pageL q l) := by
  unfold subP
  have e0 : (min q.since (fitL q l).length).toNat = min q.since.toNat (fitL q l).length := by omega
  rw [e0]
  by_cases hp : pageL q l = []
  · exact .inl hp
  · have hc : ¬ cap = min q.since.toNat (fitL q l).length := by
      intro e
      apply hp
      have : restL q l = [] := List.drop_eq_nil_of_le (by omega)
      simp [pageL, this]
    rw [if_neg hc]
    rcases h with h | ⟨g, o, h1, h2⟩
    · exact absurd (by simp [pageL, restL, h]) hp
    · cases gg with
      | none => cases h1
      | some b =>
        injection h1 with h1
        injection h1 with h1 h1'
        subst h1
        subst h1'
        refine .inr ⟨b, min q.since.toNat (fitL q l).length * 10, by show some ((⟨b, 0, none⟩ : Addr).add _) = _; rw [addr_add, Nat.zero_add], fun j x i u hj hi => ?_⟩
        have hj2 : (fitL q l)[min q.since.toNat (fitL q l).length + j]? = some x := by
          unfold pageL restL at hj
          rw [List.getElem?_take] at hj
          split at hj
          · rwa [List.getElem?_drop] at hj
          · cases hj
        have := h2 _ x i u hj2 hi
        rw [← this]
        congr 2
        rw [Nat.zero_add, Nat.add_mul, Nat.add_assoc]

theorem subP_block (gg : Option Nat) (cap : Nat) (k : Int) (b o : Nat) (h : subP gg cap k = some ⟨b, o, none⟩) : gg = some b := by
  unfold subP at h
  cases gg with
  | none => split at h <;> cases h
  | some g =>
    split at h
    · injection h with h
      injection h with h
      rw [h]
    · injection h with h
      have h : (⟨g, 0, none⟩ : Addr).add (k.toNat * 10) = ⟨b, o, none⟩ := h
      rw [addr_add] at h
      injection h with h
      rw [h]
/-- Just two blocks turn. -/
def OffB (W W' : World) (ab rb : Nat) : Prop := ∀ a : Addr, a.block ≠ ab → a.block ≠ rb → W'.cell? a = W.cell? a
theorem OffB.refl (W : World) (ab rb : Nat) : OffB W W ab rb := fun _ _ _ => rfl
theorem OffB.set {W W' : World} {ab rb : Nat} (h : OffB W W' ab rb) (x : Addr) (v : Value) (hx : x.block = ab ∨ x.block = rb) : OffB W (W'.setCell x v) ab rb := fun a h1 h2 => by
  exact (World.cell?_setCell_other _ _ _ _ (by rintro rfl; rcases hx with hx | hx <;> contradiction)).trans (h a h1 h2)
theorem RoomsAt.off {W W' : World} {ab rb : Nat} {P : Option Addr} {l : List SV} (h : RoomsAt W P l) (ho : OffB W W' ab rb) (hp : ∀ b o, P = some ⟨b, o, none⟩ → b ≠ ab ∧ b ≠ rb) : RoomsAt W' P l := by
  rcases h with h | ⟨g, o, h1, h2⟩
  · exact .inl h
  · have := hp g o h1
    exact .inr ⟨g, o, h1, fun j x i u hj hi => (ho _ this.1 this.2).trans (h2 j x i u hj hi)⟩

/-- What Find answers. -/
structure Found (q : QV) (l : List SV) (w : World) (e : Ending) (w' : World) : Prop where
  out : ∃ rp rc, e = .returned (.tuple #[.agg #[.slice rp (pageL q l).length rc, .int .i64 (fitL q l).length, .int .i64 (nextI q l), .int .i64 (prevI q)], .nilIface]) ∧ RoomsAt w' rp (pageL q l)
  below : Below w.heap.size w w'
/-- The rooms lie in new memory. -/
structure NewRooms (w : World) (rp : Option Addr) (n rc : Nat) : Prop where
  le : n ≤ rc
  new : ∀ b o, rp = some ⟨b, o, none⟩ → w.heap.size ≤ b
  nn : rp = none → rc = 0
  spot : ∀ a, rp = some a → a.spot = none
structure FoundN (q : QV) (l : List SV) (w : World) (e : Ending) (w' : World) : Prop where
  out : ∃ rp rc, e = .returned (.tuple #[.agg #[.slice rp (pageL q l).length rc, .int .i64 (fitL q l).length, .int .i64 (nextI q l), .int .i64 (prevI q)], .nilIface]) ∧ RoomsAt w' rp (pageL q l) ∧ NewRooms w rp (pageL q l).length rc
  below : Below w.heap.size w w'
theorem FoundN.found {q : QV} {l : List SV} {w : World} {e : Ending} {w' : World} (h : FoundN q l w e w') : Found q l w e w' := by
  obtain ⟨⟨rp, rc, h1, h2, _⟩, hb⟩ := h
  exact ⟨⟨rp, rc, h1, h2⟩, hb⟩
theorem subP_none (cap : Nat) (k : Int) : subP none cap k = none := by unfold subP; split <;> rfl
theorem subP_spot (gg : Option Nat) (cap : Nat) (k : Int) (a : Addr) (h : subP gg cap k = some a) : a.spot = none := by
  unfold subP at h
  cases gg with
  | none => split at h <;> cases h
  | some g =>
    split at h
    · injection h with h; rw [← h]
    · injection h with h
      have h : (⟨g, 0, none⟩ : Addr).add (k.toNat * 10) = a := h
      rw [addr_add] at h
      rw [← h]
theorem subP_some (g cap : Nat) (k : Int) : subP (some g) cap k ≠ none := by unfold subP; split <;> simp

set_option maxHeartbeats 8000000 in
theorem find_all (v : Value) (l : List SV) (q : QV) (p : Option Addr) (c : Nat) (w : World) (hI : InC w v l) (hn : l.length ≤ 1000) (hx : ∀ x ∈ l, SmallS x) (hM : MaxAt w) (hT : TypesAt w p q.types) (hl : q.types.length ≤ 1000) (hq : q.term.size ≤ maxLen)
    (h1 : 1 ≤ q.limit) (h2 : q.limit ≤ 50) (h3 : 0 ≤ q.since) (h4 : q.since ≤ 9223372036854775807) :
    Calls Tryd.prog 6 #[v, .agg (q.cells p c).toArray] w (FoundN q l w) := by
  have hb0 : Below w.heap.size w (w.alloc (.cells (q.cells p c).toArray 36)) := (Below.refl _ w).alloc (Nat.le_refl _) _
  have hq0 : QAt (w.alloc (.cells (q.cells p c).toArray 36)) w.heap.size q p c := heap_alloc_new _ _
  have HI := Lib.hid hI
  have HX := Lib.hid hx
  have HM := Lib.hid hM
  have HT := Lib.hid hT
  have HL := Lib.hid hl
  have HQ := Lib.hid hq
  have hp : q.types ≠ [] → ∀ b o, p = some ⟨b, o, none⟩ → b < w.heap.size := by
    rintro h0 b o rfl
    rcases hT with h | ⟨b', o', h1, h2⟩
    · exact absurd h h0
    · injection h1 with h1
      injection h1 with e1 e2
      subst e1; subst e2
      have := World.block_lt_of_cell? w _ (h2 0 (by cases hq : q.types with | nil => exact absurd hq h0 | cons => simp))
      simpa using this
  have HP := Lib.hid hp
  have HB0 := Lib.hid hb0
  have HQ0 := Lib.hid hq0
  clear hI hx hM hT hl hq hp hb0 hq0
  unfold QV.cells
  go_enter Tryd.func6, Tryd.ntmps6
  go_upto_region 5 with fail
  have e1 : (w.alloc (.cells #[.string q.term, .slice p q.types.length c, .int .i64 q.limit, .int .i64 q.since] 36)) = w.alloc (.cells (q.cells p c).toArray 36) := rfl
  rw [e1]
  have hr0 : (w.alloc (.cells (q.cells p c).toArray 36)).heap.size = w.heap.size + 1 := by simp
  generalize w.alloc (.cells (q.cells p c).toArray 36) = W0 at HB0 HQ0 hr0 ⊢
  have hb1 := HB0.out.alloc HB0.out.size (.cells #[.slice none 0 0, .int .i64 0, .int .i64 0, .int .i64 0] 30)
  have hA1 := heap_alloc_new W0 (.cells #[.slice none 0 0, .int .i64 0, .int .i64 0, .int .i64 0] 30)
  have hQ1 : QAt (W0.alloc (.cells #[.slice none 0 0, .int .i64 0, .int .i64 0, .int .i64 0] 30)) w.heap.size q p c := (heap_alloc_old _ _ (blk_lt HQ0.out)).trans HQ0.out
  go_wp2_with fail
  generalize W0.alloc (.cells #[.slice none 0 0, .int .i64 0, .int .i64 0, .int .i64 0] 30) = W1 at hb1 hA1 hQ1 ⊢
  have hc := clone_in v l W1 (HI.out.below hb1) hn
  refine hc.mono ?_
  rintro e W2 ⟨⟨v2, rfl, hO⟩, hb12⟩
  have hb2 := hb1.trans (hb12.mono hb1.size)
  have hQ2 := hQ1.below hb12
  have hd := delete_in v2 l W1.heap.size w.heap.size q p c W2 hO hn ⟨hQ2, HM.out.below hb2, HT.out.below hb2⟩ HL.out HQ.out HX.out (by obtain ⟨m, hm⟩ := HM.out; have h1 := World.block_lt_of_cell? _ _ hm; have := blk_lt hQ1; simp only at h1; omega) hb12.size (fun h0 b o hb => Nat.lt_of_lt_of_le (HP.out h0 b o hb) hb1.size)
  clear hc
  go_wp2_with fail
  refine hd.mono ?_
  rintro e W3 ⟨⟨gg, cap, ⟨rfl, hcap, hgc, hg0⟩, hrooms⟩, hb23⟩
  clear hd
  have hb3 := hb2.trans (hb23.mono hb1.size)
  have hQ3 := (hb23.block _ (blk_lt hQ1)).trans hQ2
  have hA3 := (hb23.block _ (blk_lt hA1)).trans ((hb12.block _ (blk_lt hA1)).trans hA1)
  have k0 : W3.cell? ⟨w.heap.size, 0, none⟩ = some (.string q.term) := by rw [blk_cell hQ3]; rfl
  have k2 : W3.cell? ⟨w.heap.size, 2, none⟩ = some (.int .i64 q.limit) := by rw [blk_cell hQ3]; rfl
  have k3 : W3.cell? ⟨w.heap.size, 3, none⟩ = some (.int .i64 q.since) := by rw [blk_cell hQ3]; rfl
  go_upto_region 7 with fail
  have hA4 : (W3.alloc (.cells #[.slice none 0 0, .int .i64 (l.filter (fitsB q)).length, .int .i64 (-1), .int .i64 (-1)] 30)).heap[W3.heap.size]? = _ := heap_alloc_new _ _
  have hb4 := hb3.alloc hb3.size (.cells #[.slice none 0 0, .int .i64 (l.filter (fitsB q)).length, .int .i64 (-1), .int .i64 (-1)] 30)
  have hbx := (Below.refl W3.heap.size W3).alloc (Nat.le_refl _) (.cells #[.slice none 0 0, .int .i64 (l.filter (fitsB q)).length, .int .i64 (-1), .int .i64 (-1)] 30)
  have hQ4 := (hbx.block _ (blk_lt hQ3)).trans hQ3
  have hR4 := (hbx.block _ (blk_lt hA3)).trans hA3
  have hrm4 : RoomsAt (W3.alloc (.cells #[.slice none 0 0, .int .i64 (l.filter (fitsB q)).length, .int .i64 (-1), .int .i64 (-1)] 30)) (gg.map fun g => ⟨g, 0, none⟩) (l.filter (fitsB q)) := by
    rcases hrooms with h | ⟨g, o, h1, h2⟩
    · exact .inl h
    · exact .inr ⟨g, o, h1, fun j x i u hj hi => (hbx.cell (World.block_lt_of_cell? _ _ (h2 j x i u hj hi))).trans (h2 j x i u hj hi)⟩
  have hq3 : w.heap.size < W3.heap.size := blk_lt hQ3
  have hr3 : W0.heap.size < W3.heap.size := blk_lt hA3
  have hqr : w.heap.size < W0.heap.size := blk_lt HQ0.out
  have hab : W3.heap.size < (W3.alloc (.cells #[.slice none 0 0, .int .i64 (l.filter (fitsB q)).length, .int .i64 (-1), .int .i64 (-1)] 30)).heap.size := blk_lt hA4
  rw [hr0] at hA3 hR4 hr3 hqr
  clear k0 k2 k3 hbx
  generalize (W3.alloc (.cells #[.slice none 0 0, .int .i64 (l.filter (fitsB q)).length, .int .i64 (-1), .int .i64 (-1)] 30)) = W4 at hA4 hb4 hQ4 hR4 hrm4 hab ⊢
  have hgab : ∀ b, gg = some b → b ≠ W3.heap.size := fun b hb => by have := hgc b hb; omega
  have HGA := Lib.hid hgab
  clear hgab
  generalize W3.heap.size = ab at hA4 hq3 hr3 hab HGA ⊢
  have hgb : ∀ b, gg = some b → w.heap.size + 1 < b := fun b hb => by have := hgc b hb; have := blk_lt hA1; omega
  have HGB := Lib.hid hgb
  clear hgb hr0 hgc hrooms hb23 hb12 hQ3 hA3 hQ2 hQ1 hA1 hb1 hb2 hb3 hO
  have k2 : W4.cell? ⟨w.heap.size, 2, none⟩ = some (.int .i64 q.limit) := by rw [blk_cell hQ4]; rfl
  have k3 : W4.cell? ⟨w.heap.size, 3, none⟩ = some (.int .i64 q.since) := by rw [blk_cell hQ4]; rfl
  obtain ⟨n, hn⟩ : ∃ n, n = (l.filter (fitsB q)).length := ⟨_, rfl⟩
  rw [← hn] at hcap hA4 ⊢
  have HN := Lib.hid hn
  have HA4 := Lib.hid hA4
  have HB4 := Lib.hid hb4
  have HR4 := Lib.hid hR4
  have HRM := Lib.hid hrm4
  have a0 : W4.cell? ⟨ab, 0, none⟩ = some (.slice none 0 0) := by rw [blk_cell hA4]; rfl
  have a1 : W4.cell? ⟨ab, 1, none⟩ = some (.int .i64 n) := by rw [blk_cell hA4]; rfl
  have a2 : W4.cell? ⟨ab, 2, none⟩ = some (.int .i64 (-1)) := by rw [blk_cell hA4]; rfl
  have a3 : W4.cell? ⟨ab, 3, none⟩ = some (.int .i64 (-1)) := by rw [blk_cell hA4]; rfl
  have f0 : W4.frozen? ⟨ab, 0, none⟩ = false := blk_frozen hA4 0
  have f2 : W4.frozen? ⟨ab, 2, none⟩ = false := blk_frozen hA4 2
  have f3 : W4.frozen? ⟨ab, 3, none⟩ = false := blk_frozen hA4 3
  have r0 : W4.cell? ⟨w.heap.size + 1, 0, none⟩ = some (.slice none 0 0) := by rw [blk_cell hR4]; rfl
  have r1 : W4.cell? ⟨w.heap.size + 1, 1, none⟩ = some (.int .i64 0) := by rw [blk_cell hR4]; rfl
  have r2 : W4.cell? ⟨w.heap.size + 1, 2, none⟩ = some (.int .i64 0) := by rw [blk_cell hR4]; rfl
  have r3 : W4.cell? ⟨w.heap.size + 1, 3, none⟩ = some (.int .i64 0) := by rw [blk_cell hR4]; rfl
  have g0 : W4.frozen? ⟨w.heap.size + 1, 0, none⟩ = false := blk_frozen hR4 0
  have g1 : W4.frozen? ⟨w.heap.size + 1, 1, none⟩ = false := blk_frozen hR4 1
  have g2 : W4.frozen? ⟨w.heap.size + 1, 2, none⟩ = false := blk_frozen hR4 2
  have g3 : W4.frozen? ⟨w.heap.size + 1, 3, none⟩ = false := blk_frozen hR4 3
  have hne2 : w.heap.size + 1 ≠ ab := by omega
  have hne : w.heap.size ≠ ab := by omega
  clear hn hA4 hb4 hR4 hrm4 hQ4
  go_upto_region 9 with fail
  have hpg := rooms_page W4 gg l q cap (by rw [fitL]; exact HRM.out) h3 (by unfold fitL; rw [← HN.out]; exact hcap)
  unfold fitL at hpg
  rw [← HN.out] at hpg
  have hsp : (if cap = (min q.since (n : Int)).toNat then Option.map (fun g : Nat => (⟨g, 0, none⟩ : Addr)) gg else Option.map ((fun x : Addr => x.add ((min q.since (n : Int)).toNat * 10)) ∘ fun g : Nat => (⟨g, 0, none⟩ : Addr)) gg) = subP gg cap (min q.since (n : Int)) := rfl
  rw [hsp]
  have hP0 : ∀ b o, subP gg cap (min q.since (n : Int)) = some ⟨b, o, none⟩ → b ≠ ab ∧ b ≠ w.heap.size + 1 := fun b o h => by
    have h1 := subP_block _ _ _ _ _ h
    have := HGB.out b h1
    exact ⟨HGA.out b h1, by omega⟩
  have HP0 := Lib.hid hP0
  clear hP0
  have hnw : NewRooms w (subP gg cap (min q.since (n : Int))) (pageL q l).length (cap - (min q.since (n : Int)).toNat) := by
    refine ⟨?_, fun b o h => ?_, fun h => ?_, fun a h => subP_spot _ _ _ _ h⟩
    · unfold pageL restL
      simp only [List.length_take, List.length_drop]
      unfold fitL
      rw [← HN.out]
      omega
    · have := HGB.out b (subP_block _ _ _ _ _ h)
      omega
    · cases gg with
      | none => rw [hg0 rfl]; omega
      | some g => exact absurd h (subP_some _ _ _)
  have HNW := Lib.hid hnw
  clear hnw hg0
  generalize subP gg cap (min q.since (n : Int)) = P0 at hpg HP0 HNW ⊢
  obtain ⟨m, hm⟩ : ∃ m, m = n - (min q.since (n : Int)).toNat := ⟨_, rfl⟩
  rw [← hm]
  have hpl : (min q.limit (m : Int)).toNat = (pageL q l).length := by
    unfold pageL restL
    simp only [List.length_take, List.length_drop]
    unfold fitL
    rw [← HN.out]
    omega
  have hml : m = (restL q l).length := by
    unfold restL
    rw [List.length_drop]
    unfold fitL
    rw [← HN.out]
    omega
  rw [hpl]
  have HPG := Lib.hid hpg
  have HML := Lib.hid hml
  clear hpl hpg hml
  have hmn : m ≤ n - q.since.toNat := by rw [hm]; omega
  have hno : n ≤ 1000 := by rw [HN.out]; exact Nat.le_trans (List.length_filter_le _ _) hn
  clear hm
  generalize cap - (min q.since (n : Int)).toNat = cc at HNW ⊢
  have HNC := Lib.hid hcap
  by_cases hn1 : q.limit < m <;> by_cases hp1 : 0 < q.since
  · have hsum : wrap64 (q.since + q.limit) = q.since + q.limit := by unfold wrap64; omega
    go_wp2_with fail
    refine bodyPost_ret (v := .tuple #[.agg #[.slice P0 (pageL q l).length cc, .int .i64 n, .int .i64 (q.since + q.limit), .int .i64 (max 0 (q.since - q.limit))], .nilIface]) (by simp [results, Tryd.results6, go_sem, r0, r1, r2, r3, hne2]) rfl ⟨⟨P0, cc, ?_, HPG.out.off ((((((((OffB.refl W4 ab (w.heap.size + 1)).set ⟨ab, 0, none⟩ _ (.inl rfl)).set ⟨ab, 2, none⟩ _ (.inl rfl)).set ⟨ab, 3, none⟩ _ (.inl rfl)).set ⟨w.heap.size + 1, 0, none⟩ _ (.inr rfl)).set ⟨w.heap.size + 1, 1, none⟩ _ (.inr rfl)).set ⟨w.heap.size + 1, 2, none⟩ _ (.inr rfl)).set ⟨w.heap.size + 1, 3, none⟩ _ (.inr rfl)) HP0.out, HNW.out⟩, (((((((HB4.out.setCell (p := ⟨ab, 0, none⟩) (by show _ ≤ ab; omega) _).setCell (p := ⟨ab, 2, none⟩) (by show _ ≤ ab; omega) _).setCell (p := ⟨ab, 3, none⟩) (by show _ ≤ ab; omega) _).setCell (p := ⟨w.heap.size + 1, 0, none⟩) (by show _ ≤ w.heap.size + 1; omega) _).setCell (p := ⟨w.heap.size + 1, 1, none⟩) (by show _ ≤ w.heap.size + 1; omega) _).setCell (p := ⟨w.heap.size + 1, 2, none⟩) (by show _ ≤ w.heap.size + 1; omega) _).setCell (p := ⟨w.heap.size + 1, 3, none⟩) (by show _ ≤ w.heap.size + 1; omega) _)⟩
    have hnx : nextI q l = q.since + q.limit := by
      unfold nextI
      rw [← HML.out]
      rw [if_pos hn1]
    have hpv : prevI q = (max 0 (q.since - q.limit)) := by
      unfold prevI
      rw [if_pos hp1]
    rw [hnx, hpv, show ((fitL q l).length : Int) = n by unfold fitL; rw [← HN.out]]
  · have hsum : wrap64 (q.since + q.limit) = q.since + q.limit := by unfold wrap64; omega
    go_wp2_with fail
    refine bodyPost_ret (v := .tuple #[.agg #[.slice P0 (pageL q l).length cc, .int .i64 n, .int .i64 (q.since + q.limit), .int .i64 (-1)], .nilIface]) (by simp [results, Tryd.results6, go_sem, r0, r1, r2, r3, hne2]) rfl ⟨⟨P0, cc, ?_, HPG.out.off (((((((OffB.refl W4 ab (w.heap.size + 1)).set ⟨ab, 0, none⟩ _ (.inl rfl)).set ⟨ab, 2, none⟩ _ (.inl rfl)).set ⟨w.heap.size + 1, 0, none⟩ _ (.inr rfl)).set ⟨w.heap.size + 1, 1, none⟩ _ (.inr rfl)).set ⟨w.heap.size + 1, 2, none⟩ _ (.inr rfl)).set ⟨w.heap.size + 1, 3, none⟩ _ (.inr rfl)) HP0.out, HNW.out⟩, ((((((HB4.out.setCell (p := ⟨ab, 0, none⟩) (by show _ ≤ ab; omega) _).setCell (p := ⟨ab, 2, none⟩) (by show _ ≤ ab; omega) _).setCell (p := ⟨w.heap.size + 1, 0, none⟩) (by show _ ≤ w.heap.size + 1; omega) _).setCell (p := ⟨w.heap.size + 1, 1, none⟩) (by show _ ≤ w.heap.size + 1; omega) _).setCell (p := ⟨w.heap.size + 1, 2, none⟩) (by show _ ≤ w.heap.size + 1; omega) _).setCell (p := ⟨w.heap.size + 1, 3, none⟩) (by show _ ≤ w.heap.size + 1; omega) _)⟩
    have hnx : nextI q l = q.since + q.limit := by
      unfold nextI
      rw [← HML.out]
      rw [if_pos hn1]
    have hpv : prevI q = (-1) := by
      unfold prevI
      rw [if_neg (Int.not_lt.2 hp1)]
    rw [hnx, hpv, show ((fitL q l).length : Int) = n by unfold fitL; rw [← HN.out]]
  · go_wp2_with fail
    refine bodyPost_ret (v := .tuple #[.agg #[.slice P0 (pageL q l).length cc, .int .i64 n, .int .i64 (-1), .int .i64 (max 0 (q.since - q.limit))], .nilIface]) (by simp [results, Tryd.results6, go_sem, r0, r1, r2, r3, hne2]) rfl ⟨⟨P0, cc, ?_, HPG.out.off (((((((OffB.refl W4 ab (w.heap.size + 1)).set ⟨ab, 0, none⟩ _ (.inl rfl)).set ⟨ab, 3, none⟩ _ (.inl rfl)).set ⟨w.heap.size + 1, 0, none⟩ _ (.inr rfl)).set ⟨w.heap.size + 1, 1, none⟩ _ (.inr rfl)).set ⟨w.heap.size + 1, 2, none⟩ _ (.inr rfl)).set ⟨w.heap.size + 1, 3, none⟩ _ (.inr rfl)) HP0.out, HNW.out⟩, ((((((HB4.out.setCell (p := ⟨ab, 0, none⟩) (by show _ ≤ ab; omega) _).setCell (p := ⟨ab, 3, none⟩) (by show _ ≤ ab; omega) _).setCell (p := ⟨w.heap.size + 1, 0, none⟩) (by show _ ≤ w.heap.size + 1; omega) _).setCell (p := ⟨w.heap.size + 1, 1, none⟩) (by show _ ≤ w.heap.size + 1; omega) _).setCell (p := ⟨w.heap.size + 1, 2, none⟩) (by show _ ≤ w.heap.size + 1; omega) _).setCell (p := ⟨w.heap.size + 1, 3, none⟩) (by show _ ≤ w.heap.size + 1; omega) _)⟩
    have hnx : nextI q l = (-1) := by
      unfold nextI
      rw [← HML.out]
      rw [if_neg (Int.not_lt.2 hn1)]
    have hpv : prevI q = (max 0 (q.since - q.limit)) := by
      unfold prevI
      rw [if_pos hp1]
    rw [hnx, hpv, show ((fitL q l).length : Int) = n by unfold fitL; rw [← HN.out]]
  · go_wp2_with fail
    refine bodyPost_ret (v := .tuple #[.agg #[.slice P0 (pageL q l).length cc, .int .i64 n, .int .i64 (-1), .int .i64 (-1)], .nilIface]) (by simp [results, Tryd.results6, go_sem, r0, r1, r2, r3, hne2]) rfl ⟨⟨P0, cc, ?_, HPG.out.off ((((((OffB.refl W4 ab (w.heap.size + 1)).set ⟨ab, 0, none⟩ _ (.inl rfl)).set ⟨w.heap.size + 1, 0, none⟩ _ (.inr rfl)).set ⟨w.heap.size + 1, 1, none⟩ _ (.inr rfl)).set ⟨w.heap.size + 1, 2, none⟩ _ (.inr rfl)).set ⟨w.heap.size + 1, 3, none⟩ _ (.inr rfl)) HP0.out, HNW.out⟩, (((((HB4.out.setCell (p := ⟨ab, 0, none⟩) (by show _ ≤ ab; omega) _).setCell (p := ⟨w.heap.size + 1, 0, none⟩) (by show _ ≤ w.heap.size + 1; omega) _).setCell (p := ⟨w.heap.size + 1, 1, none⟩) (by show _ ≤ w.heap.size + 1; omega) _).setCell (p := ⟨w.heap.size + 1, 2, none⟩) (by show _ ≤ w.heap.size + 1; omega) _).setCell (p := ⟨w.heap.size + 1, 3, none⟩) (by show _ ≤ w.heap.size + 1; omega) _)⟩
    have hnx : nextI q l = (-1) := by
      unfold nextI
      rw [← HML.out]
      rw [if_neg (Int.not_lt.2 hn1)]
    have hpv : prevI q = (-1) := by
      unfold prevI
      rw [if_neg (Int.not_lt.2 hp1)]
    rw [hnx, hpv, show ((fitL q l).length : Int) = n by unfold fitL; rw [← HN.out]]

theorem find_any (v : Value) (l : List SV) (q : QV) (p : Option Addr) (c : Nat) (w : World) (hI : InAt w v l) (hn : l.length ≤ 1000) (hx : ∀ x ∈ l, SmallS x) (hM : MaxAt w) (hT : TypesAt w p q.types) (hl : q.types.length ≤ 1000) (hq : q.term.size ≤ maxLen)
    (hp : ∀ b, p = some ⟨b, 0, none⟩ → b < w.heap.size) (h1 : 1 ≤ q.limit) (h2 : q.limit ≤ 50) (h3 : 0 ≤ q.since) (h4 : q.since ≤ 9223372036854775807) :
    Calls Tryd.prog 6 #[v, .agg (q.cells p c).toArray] w (Found q l w) :=
  (find_all v l q p c w hI.toC hn hx hM hT hl hq h1 h2 h3 h4).mono fun _ _ h => h.found
end Go.Proofs.YtmpbofmhjjgccaaDoor
namespace Go.Proofs.YtmpbofmhjjgccaaDoor
open Go.RowKit
set_option maxRecDepth 100000
set_option linter.unusedVariables false
set_option linter.unusedSimpArgs false
attribute [local irreducible] awp aops aop aput aseq ablock TriX Tri Ret Fresh dq adraw dtail dals dfin Wk

def SVd (x : SV) : List D := [.s x.room, .s x.typ, .s x.name, .s x.topic, .s x.alias, .s x.avatar, .s x.rule, .i x.joined, .b x.readable, .b x.guests]
def QVd (q : QV) : List D := [.s q.term, .lst false 1 (q.types.map fun t => [.s t]), .i q.limit, .i q.since]
def shortB (x : SV) : Bool := decide (x.name.size + x.topic.size + x.alias.size ≤ 300)
def fewB (l : List SV) (q : QV) : Bool := l.all shortB && (decide (l.length ≤ 80) && decide (q.term.size ≤ 100) && decide (q.types.length ≤ 10))
theorem take_allp {α : Type} {p : α → Bool} {l : List α} {k : Nat} (h : k < l.length) : (l.take (k + 1)).all p = ((l.take k).all p && p l[k]) := by
  rw [List.take_succ_eq_append_getElem h, List.all_append]
  simp
def D.int : D → Int
  | .v (.int _ n) => n
  | _ => 0
def SVsD (l : List SV) : D := .lst false 10 (l.map SVd)
attribute [local simp] SVd

set_option maxHeartbeats 4000000 in
theorem fewT (l : List SV) (q : QV) (σ : St) (hl : l.length ≤ 9223372036854775807) (ht : q.types.length ≤ 9223372036854775807) (hx : ∀ x ∈ l, x.name.size ≤ 140737488351232 ∧ x.topic.size ≤ 140737488351232 ∧ x.alias.size ≤ 140737488351232) :
    Tri Tryd.prog 5 [SVsD l, .agg (QVd q)] σ fun d τ => d = .b (fewB l q) ∧ τ = σ := by
  have HX := Lib.hid hx
  unfold SVsD QVd
  clear hx
  refine tri_fn Tryd.func5 rfl Tryd.ntmps5 Tryd.results5 (Nat.le_of_ble_eq_true rfl) ?_
  refine' wlk0
  refine' genS
  refine awp_loopM [4, 6, 9, 10, 11, 12, 13, 14, 15, 16, 17, 18, 19, 20, 21, 22, 23, 24, 25] (fun X τ => ∃ k : Nat, k ≤ l.length ∧ X 9 = .i k ∧ Hid ((l.take k).all shortB = true) ∧ τ = σ1) (fun X _ => l.length - (X 9).int.toNat) ?_ ?_
  · refine .same ⟨mix_self _ _, 0, by omega, ?_, Lib.hid (by simp), rfl⟩
    simp [*]
  · rintro X τ ⟨k, hk, h9, hall, rfl⟩ _ hL
    by_cases hlt : k < l.length
    · obtain ⟨s1, s2, s3⟩ := HX.out l[k] (List.getElem_mem hlt)
      by_cases hs : l[k].name.size + l[k].topic.size + l[k].alias.size ≤ 300
      · refine' wlk0
        refine hL.out _ _ (.less τ leT (.same ⟨mixT, ⟨k + 1, by omega, ?_, Lib.hid ?_, rfl⟩, ?_⟩))
        · simp [*]
        · rw [take_allp hlt, hall.out]; simp [shortB]; exact hs
        · simp [*, D.int]; omega
      · refine' wlk0
        ((try simp [*]); (try simp (discharger := omega) only [wrap_i64, dec_t, dec_f]))
        refine .mk _ σ (.refl _) leT ⟨?_, rfl⟩
        have : fewB l q = false := by
          unfold fewB
          have : l.all shortB = false := by
            rw [List.all_eq_false]
            exact ⟨l[k], List.getElem_mem hlt, by simp [shortB]; omega⟩
          rw [this]
          rfl
        rw [this]
    · have hkl : k = l.length := by omega
      subst hkl
      have hall := hall.out
      rw [List.take_length] at hall
      have hB : fewB l q = (decide (l.length ≤ 80) && decide (q.term.size ≤ 100) && decide (q.types.length ≤ 10)) := by unfold fewB; rw [hall]; simp
      have HB := Lib.hid hB
      clear hall hB
      by_cases h1 : l.length ≤ 80
      · by_cases h2 : q.term.size ≤ 100
        · refine' wlk0
          ((try simp [*]); (try simp (discharger := omega) only [wrap_i64, dec_t, dec_f]))
          exact .mk _ σ (.refl _) leT ⟨by rw [HB.out]; simp [h1, h2]; omega, rfl⟩
        · refine' wlk0
          ((try simp [*]); (try simp (discharger := omega) only [wrap_i64, dec_t, dec_f]))
          exact .mk _ σ (.refl _) leT ⟨by rw [HB.out]; simp [h1, h2], rfl⟩
      · refine' wlk0
        ((try simp [*]); (try simp (discharger := omega) only [wrap_i64, dec_t, dec_f]))
        exact .mk _ σ (.refl _) leT ⟨by rw [HB.out]; simp [h1], rfl⟩
end Go.Proofs.YtmpbofmhjjgccaaDoor
/-
  Summaries, questions as they are read out of a row.
-/
namespace Go.Proofs.YtmpbofmhjjgccaaDoor
open Go.RowKit Go.ChangeShapes Go.WideShapes
set_option maxRecDepth 100000
set_option linter.unusedVariables false
set_option linter.unusedSimpArgs false

theorem reach_num : reachBytes = 140737488351232 := rfl
theorem rdI {P : Program} {N : Nat} {t : TypeId} (ht : P.underlying t = some (.int .i64)) : Rd P N t (fun n : Int => [.i n]) (fun n => -9223372036854775808 ≤ n ∧ n ≤ 9223372036854775807) := fun enc w base spare held fuel cs x _ h => by
  obtain ⟨n, rfl, _, hw⟩ := DataW.trod_int ht h
  exact ⟨n, repL1 (.v _), by simp [Value.oneCell'], fun _ => by simp [Lit.wf, IntKind.min, IntKind.max, IntKind.signed, IntKind.bits] at hw; omega⟩
theorem list10 {α : Type} : ∀ {l : List α}, l.length = 10 → ∃ a0 a1 a2 a3 a4 a5 a6 a7 a8 a9, l = [a0, a1, a2, a3, a4, a5, a6, a7, a8, a9]
  | [a0, a1, a2, a3, a4, a5, a6, a7, a8, a9], _ => ⟨a0, a1, a2, a3, a4, a5, a6, a7, a8, a9, rfl⟩
theorem rdS (N : Nat) : Rd Tryd.prog N 47 (fun x : SV => SVd x) (fun x => x.name.size ≤ 140737488351232 ∧ x.topic.size ≤ 140737488351232 ∧ x.alias.size ≤ 140737488351232) := fun enc w base spare held fuel cs x hfu h => by
  obtain ⟨xs, n', rfl, rfl, hlen, hxl, hf⟩ := DataW.trod_struct Tryd.underlying47 h
  have hlen' : cs.length = 10 := hlen.trans (by kernel_rfl)
  have hx3 : xs.length = 10 := hxl
  have g0 := hf 0 _ rfl
  have g1 := hf 1 _ rfl
  have g2 := hf 2 _ rfl
  have g3 := hf 3 _ rfl
  have g4 := hf 4 _ rfl
  have g5 := hf 5 _ rfl
  have g6 := hf 6 _ rfl
  have g7 := hf 7 _ rfl
  have g8 := hf 8 _ rfl
  have g9 := hf 9 _ rfl
  obtain ⟨y0, y1, y2, y3, y4, y5, y6, y7, y8, y9, rfl⟩ := list10 hx3
  obtain ⟨x0, x1, x2, x3, x4, x5, x6, x7, x8, x9, rfl⟩ := list10 hlen'
  change DataW.trod enc Tryd.prog w base spare held n' 9 (([x0, x1, x2, x3, x4, x5, x6, x7, x8, x9].drop 0).take (Program.cellsOf Tryd.prog 9)) = some y0 at g0
  change DataW.trod enc Tryd.prog w base spare held n' 9 (([x0, x1, x2, x3, x4, x5, x6, x7, x8, x9].drop 1).take (Program.cellsOf Tryd.prog 9)) = some y1 at g1
  change DataW.trod enc Tryd.prog w base spare held n' 9 (([x0, x1, x2, x3, x4, x5, x6, x7, x8, x9].drop 2).take (Program.cellsOf Tryd.prog 9)) = some y2 at g2
  change DataW.trod enc Tryd.prog w base spare held n' 9 (([x0, x1, x2, x3, x4, x5, x6, x7, x8, x9].drop 3).take (Program.cellsOf Tryd.prog 9)) = some y3 at g3
  change DataW.trod enc Tryd.prog w base spare held n' 9 (([x0, x1, x2, x3, x4, x5, x6, x7, x8, x9].drop 4).take (Program.cellsOf Tryd.prog 9)) = some y4 at g4
  change DataW.trod enc Tryd.prog w base spare held n' 9 (([x0, x1, x2, x3, x4, x5, x6, x7, x8, x9].drop 5).take (Program.cellsOf Tryd.prog 9)) = some y5 at g5
  change DataW.trod enc Tryd.prog w base spare held n' 9 (([x0, x1, x2, x3, x4, x5, x6, x7, x8, x9].drop 6).take (Program.cellsOf Tryd.prog 9)) = some y6 at g6
  change DataW.trod enc Tryd.prog w base spare held n' 3 (([x0, x1, x2, x3, x4, x5, x6, x7, x8, x9].drop 7).take (Program.cellsOf Tryd.prog 3)) = some y7 at g7
  change DataW.trod enc Tryd.prog w base spare held n' 4 (([x0, x1, x2, x3, x4, x5, x6, x7, x8, x9].drop 8).take (Program.cellsOf Tryd.prog 4)) = some y8 at g8
  change DataW.trod enc Tryd.prog w base spare held n' 4 (([x0, x1, x2, x3, x4, x5, x6, x7, x8, x9].drop 9).take (Program.cellsOf Tryd.prog 4)) = some y9 at g9
  have e0 : Program.cellsOf Tryd.prog 9 = 1 := by kernel_rfl
  have e1 : Program.cellsOf Tryd.prog 3 = 1 := by kernel_rfl
  have e2 : Program.cellsOf Tryd.prog 4 = 1 := by kernel_rfl
  simp only [e0, e1, e2, List.drop_succ_cons, List.drop_zero, List.take_succ_cons, List.take_zero] at g0 g1 g2 g3 g4 g5 g6 g7 g8 g9
  obtain ⟨a0, r0, o0, f0⟩ := Rd.str (N := n') Tryd.underlying9 enc w base spare held n' _ y0 (by omega) g0
  obtain ⟨a1, r1, o1, f1⟩ := Rd.str (N := n') Tryd.underlying9 enc w base spare held n' _ y1 (by omega) g1
  obtain ⟨a2, r2, o2, f2⟩ := Rd.str (N := n') Tryd.underlying9 enc w base spare held n' _ y2 (by omega) g2
  obtain ⟨a3, r3, o3, f3⟩ := Rd.str (N := n') Tryd.underlying9 enc w base spare held n' _ y3 (by omega) g3
  obtain ⟨a4, r4, o4, f4⟩ := Rd.str (N := n') Tryd.underlying9 enc w base spare held n' _ y4 (by omega) g4
  obtain ⟨a5, r5, o5, f5⟩ := Rd.str (N := n') Tryd.underlying9 enc w base spare held n' _ y5 (by omega) g5
  obtain ⟨a6, r6, o6, f6⟩ := Rd.str (N := n') Tryd.underlying9 enc w base spare held n' _ y6 (by omega) g6
  obtain ⟨a7, r7, o7, f7⟩ := rdI (N := n') Tryd.underlying3 enc w base spare held n' _ y7 (by omega) g7
  obtain ⟨a8, r8, o8, f8⟩ := Rd.bool (N := n') Tryd.underlying4 enc w base spare held n' _ y8 (by omega) g8
  obtain ⟨a9, r9, o9, f9⟩ := Rd.bool (N := n') Tryd.underlying4 enc w base spare held n' _ y9 (by omega) g9
  refine ⟨⟨a0, a1, a2, a3, a4, a5, a6, a7, a8, a9⟩, r0.append (r1.append (r2.append (r3.append (r4.append (r5.append (r6.append (r7.append (r8.append (r9))))))))), ?_, fun hr => ?_⟩
  · intro v hv
    simp only [List.mem_cons, List.not_mem_nil, or_false] at hv
    rcases hv with rfl | rfl | rfl | rfl | rfl | rfl | rfl | rfl | rfl | rfl
    · exact o0 _ (by simp)
    · exact o1 _ (by simp)
    · exact o2 _ (by simp)
    · exact o3 _ (by simp)
    · exact o4 _ (by simp)
    · exact o5 _ (by simp)
    · exact o6 _ (by simp)
    · exact o7 _ (by simp)
    · exact o8 _ (by simp)
    · exact o9 _ (by simp)
  · exact ⟨f2 (reached_field Tryd.underlying47 hr (i := 2) rfl rfl), f3 (reached_field Tryd.underlying47 hr (i := 3) rfl rfl), f4 (reached_field Tryd.underlying47 hr (i := 4) rfl rfl)⟩
theorem list4 {α : Type} : ∀ {l : List α}, l.length = 4 → ∃ a0 a1 a2 a3, l = [a0, a1, a2, a3]
  | [a0, a1, a2, a3], _ => ⟨a0, a1, a2, a3, rfl⟩
theorem rdQ (N : Nat) : Rd Tryd.prog N 25 (fun x : QV => QVd x) (fun x => x.types.length * 16 ≤ 140737488351232 ∧ x.since ≤ 9223372036854775807) := fun enc w base spare held fuel cs x hfu h => by
  obtain ⟨xs, n', rfl, rfl, hlen, hxl, hf⟩ := DataW.trod_struct Tryd.underlying25 h
  have hlen' : cs.length = 4 := hlen.trans (by kernel_rfl)
  have hx3 : xs.length = 4 := hxl
  have g0 := hf 0 _ rfl
  have g1 := hf 1 _ rfl
  have g2 := hf 2 _ rfl
  have g3 := hf 3 _ rfl
  obtain ⟨y0, y1, y2, y3, rfl⟩ := list4 hx3
  obtain ⟨x0, x1, x2, x3, rfl⟩ := list4 hlen'
  change DataW.trod enc Tryd.prog w base spare held n' 9 (([x0, x1, x2, x3].drop 0).take (Program.cellsOf Tryd.prog 9)) = some y0 at g0
  change DataW.trod enc Tryd.prog w base spare held n' 23 (([x0, x1, x2, x3].drop 1).take (Program.cellsOf Tryd.prog 23)) = some y1 at g1
  change DataW.trod enc Tryd.prog w base spare held n' 3 (([x0, x1, x2, x3].drop 2).take (Program.cellsOf Tryd.prog 3)) = some y2 at g2
  change DataW.trod enc Tryd.prog w base spare held n' 3 (([x0, x1, x2, x3].drop 3).take (Program.cellsOf Tryd.prog 3)) = some y3 at g3
  have e0 : Program.cellsOf Tryd.prog 9 = 1 := by kernel_rfl
  have e1 : Program.cellsOf Tryd.prog 23 = 1 := by kernel_rfl
  have e2 : Program.cellsOf Tryd.prog 3 = 1 := by kernel_rfl
  simp only [e0, e1, e2, List.drop_succ_cons, List.drop_zero, List.take_succ_cons, List.take_zero] at g0 g1 g2 g3
  obtain ⟨a0, r0, o0, f0⟩ := Rd.str (N := n') Tryd.underlying9 enc w base spare held n' _ y0 (by omega) g0
  obtain ⟨a1, r1, o1, f1⟩ := Rd.slice (by_ := 16) (sz := 1) Tryd.underlying23 (by kernel_rfl) (by kernel_rfl) (by decide) (fun _ => rfl) (Rd.str (N := n') Tryd.underlying9) enc w base spare held n' _ y1 (by omega) g1
  obtain ⟨a2, r2, o2, f2⟩ := rdI (N := n') Tryd.underlying3 enc w base spare held n' _ y2 (by omega) g2
  obtain ⟨a3, r3, o3, f3⟩ := rdI (N := n') Tryd.underlying3 enc w base spare held n' _ y3 (by omega) g3
  refine ⟨⟨a0, a1, a2, a3⟩, r0.append (r1.append (r2.append (r3))), ?_, fun hr => ?_⟩
  · intro v hv
    simp only [List.mem_cons, List.not_mem_nil, or_false] at hv
    rcases hv with rfl | rfl | rfl | rfl
    · exact o0 _ (by simp)
    · exact o1 _ (by simp)
    · exact o2 _ (by simp)
    · exact o3 _ (by simp)
  · exact ⟨(f1 (reached_field Tryd.underlying25 hr (i := 1) rfl rfl)).1, (f3 (reached_field Tryd.underlying25 hr (i := 3) rfl rfl)).2⟩
end Go.Proofs.YtmpbofmhjjgccaaDoor
/-
  Find, as a contract over values.
-/
namespace Go.Proofs.YtmpbofmhjjgccaaDoor
open Go.RowKit
set_option maxRecDepth 100000
set_option linter.unusedVariables false
set_option linter.unusedSimpArgs false

section
variable {base w w' : World} {G G' : Gh} {σ τ : St}
/-- New cells that don't change. -/
theorem Sim.newRow (h : Sim base w G σ) (hb : Below w.heap.size w w') {g o0 : Nat} (hg : w.heap.size ≤ g) (xs : List Value) (hx : ∀ (k : Nat) (u : Value), xs[k]? = some u → w'.cell? ⟨g, o0 + k, none⟩ = some u) (h1 : ∀ x ∈ xs, x.oneCell' = true) :
    ∃ G', G.le G' ∧ Sim base w' G' σ ∧ ∀ (k : Nat) (u : Value), xs[k]? = some u → G' g (o0 + k) = some u := by
  have hgr := h.grow hb
  have hng : ∀ o, G g o = none := fun o => h.fresh_data hg o
  have hle : G.le (fun b o => if b = g then (if o0 ≤ o then xs[o - o0]? else none) else G b o) := fun b o v hv => by
    have e : b ≠ g := by rintro rfl; rw [hng] at hv; cases hv
    simp only [if_neg e]
    exact hv
  refine ⟨_, hle, ⟨hgr.ok, hgr.below, fun b o v hv => ?_, fun b x hx' => ?_⟩, fun k u hk => ?_⟩
  · by_cases e : b = g
    · subst e
      simp only [if_true] at hv
      split at hv
      · rename_i ho
        have := hx _ _ hv
        rw [show o0 + (o - o0) = o by omega] at this
        exact ⟨this, h1 v (List.mem_of_getElem? hv)⟩
      · cases hv
    · simp only [if_neg e] at hv
      exact hgr.data b o v hv
  · obtain ⟨j1, j2⟩ := hgr.own b x hx'
    have hlt := (h.own b x hx').2.lt
    exact ⟨j1, j2.mono rfl hle (fun o => if_neg (by omega))⟩
  · simp only [if_true]
    rw [if_pos (Nat.le_add_right _ _), show o0 + k - o0 = k by omega]
    exact hk
theorem rep_row {g o0 c : Nat} {sz : Nat} (yss : List (List Value)) (hs : ∀ ys ∈ yss, ys.length = sz) (hc : yss.length ≤ c) (h : ∀ (k : Nat) (u : Value), yss.flatten[k]? = some u → G g (o0 + k) = some u) :
    Rep G (.slice (some ⟨g, o0, none⟩) yss.length c) (.slice none false sz (yss.map fun ys => ys.map D.v)) := by
  have hf : (yss.map fun ys => ys.map D.v).flatten = yss.flatten.map D.v := by rw [List.map_flatten]
  have hlen : yss.flatten.length = yss.length * sz := by
    clear hc h hf
    induction yss with
    | nil => simp
    | cons y ys ih => rw [List.flatten_cons, List.length_append, ih (fun z hz => hs z (by simp [hz])), hs y (by simp), List.length_cons, Nat.add_mul]; omega
  have hll : (yss.map fun ys => ys.map D.v).length = yss.length := by simp
  have := Rep.slice (G := G) ⟨g, o0, none⟩ c none false sz (yss.map fun ys => ys.map D.v) (fun k => yss.flatten.getD k (.bool false)) (fun _ => rfl) (by rw [hll]; exact hc) (by simp) (by
    intro cs hcs
    obtain ⟨ys, hy, rfl⟩ := List.mem_map.1 hcs
    rw [List.length_map]
    exact hs ys hy) (by
    intro k hk
    rw [hll, ← hlen] at hk
    refine h k _ ?_
    rw [List.getD_eq_getElem?_getD, List.getElem?_eq_getElem hk]
    rfl) (by
    intro k d hd
    rw [hf, List.getElem?_map, Option.map_eq_some_iff] at hd
    obtain ⟨u, hu, rfl⟩ := hd
    rw [List.getD_eq_getElem?_getD, hu]
    exact .v _) (by simp)
  rwa [hll] at this
/-- A list's cells, in the world. -/
theorem Rep.cells_at {x : Value} {d : D} {nl : Bool} {tip : Option (Nat × Nat)} {full : Bool} {sz : Nat} (yss : List (List Value)) (hS : Sim base w G σ) (h : Rep G x d) (hd : d.list = some (nl, tip, full, sz, yss.map fun ys => ys.map D.v)) :
    (yss = [] ∧ ∃ a c, x = .slice a 0 c) ∨ ∃ g o c, x = .slice (some ⟨g, o, none⟩) yss.length c ∧ yss.length ≤ c ∧ ∀ (k : Nat) (u : Value), yss.flatten[k]? = some u → w.cell? ⟨g, o + k, none⟩ = some u := by
  rcases h.list_inv hd with ⟨_, _, h1, h2⟩ | h
  · exact .inl ⟨by simpa using h2, _, _, h1⟩
  · have hf : (yss.map fun ys => ys.map D.v).flatten = yss.flatten.map D.v := by rw [List.map_flatten]
    have hll : (yss.map fun ys => ys.map D.v).length = yss.length := by simp
    generalize hds : (yss.map fun ys => ys.map D.v) = ds at h hf hll
    cases h with
    | slice a c _ _ _ _ vals hs hc hfull hsz hcell hrep htip =>
      by_cases h0 : yss = []
      · subst h0
        refine .inl ⟨rfl, some a, c, ?_⟩
        rw [hll]
        rfl
      · obtain ⟨g, o, sp⟩ := a
        have hs := hs (by rintro rfl; exact h0 (by simpa using hds))
        simp only at hs
        subst hs
        refine .inr ⟨g, o, c, by rw [hll], by rw [← hll]; exact hc, fun k u hk => ?_⟩
        have hk' : ds.flatten[k]? = some (.v u) := by rw [hf, List.getElem?_map, hk]; rfl
        have hlt : k < ds.length * sz := by
          have h2 : k < ds.flatten.length := (List.getElem?_eq_some_iff.1 hk').1
          rwa [flat_len ds hsz] at h2
        have := (hS.data _ _ _ (hcell k hlt)).1
        rw [(hrep k _ hk').v_inv] at this
        exact this
end
theorem SVd_cells (x : SV) : SVd x = x.cells.map D.v := rfl
theorem SVd_map (l : List SV) : l.map SVd = (l.map SV.cells).map fun ys => ys.map D.v := by rw [List.map_map]; rfl
theorem types_map (l : List ByteArray) : (l.map fun t => [D.s t]) = (l.map fun t => [Value.string t]).map fun ys => ys.map D.v := by rw [List.map_map]; rfl
theorem sumC_flat (l : List SV) : (l.map SV.cells).flatten = sumC l := by unfold sumC; rw [List.flatMap_def]
theorem maxAt {base w : World} {G : Gh} {σ : St} (h : Sim base w G σ) : MaxAt w := by
  obtain ⟨m, hm⟩ := h.ok.maxLen
  exact ⟨m, (h.below.cell (World.block_lt_of_cell? _ _ hm)).trans hm⟩

theorem findT (q : QV) (l : List SV) (dl dt : D) (σ : St) {nl nl' : Bool} {tip tip' : Option (Nat × Nat)} {full full' : Bool} (hd : (l = [] ∧ dl = .v (.slice none 0 0)) ∨ (l ≠ [] ∧ dl.list = some (nl, tip, full, 10, l.map SVd))) (hdt : (q.types = [] ∧ dt = .v (.slice none 0 0)) ∨ dt.list = some (nl', tip', full', 1, q.types.map fun t => [D.s t]))
    (hn : l.length ≤ 1000) (hx : ∀ x ∈ l, SmallS x) (hl : q.types.length ≤ 1000) (hq : q.term.size ≤ maxLen) (h1 : 1 ≤ q.limit) (h2 : q.limit ≤ 50) (h3 : 0 ≤ q.since) (h4 : q.since ≤ 9223372036854775807) :
    Tri Tryd.prog 6 [dl, .agg [.s q.term, dt, .i q.limit, .i q.since]] σ fun d τ =>
      d = .tup [.agg [.lst false 10 ((pageL q l).map SVd), .i (fitL q l).length, .i (nextI q l), .i (prevI q)], .v .nilIface] ∧ τ = σ := by
  unfold Tri TriX
  intro base w G vs hS hA
  obtain ⟨x, xs, rfl, hxl, hA⟩ := hA.inv
  obtain ⟨y, xs, rfl, hy, hA⟩ := hA.inv
  cases hA.inv0
  obtain ⟨c, hc, p, htv⟩ : ∃ us : List Value, y = .agg us.toArray ∧ RepL G us [.s q.term, dt, .i q.limit, .i q.since] := by
    cases hy with
    | agg us cs hl h1 hrep => exact ⟨us, rfl, hl, hrep⟩
  subst hc
  obtain ⟨u0, us, rfl, r0, hA⟩ := (RepL.mk p htv).inv
  obtain ⟨u1, us, rfl, r1, hA⟩ := hA.inv
  obtain ⟨u2, us, rfl, r2, hA⟩ := hA.inv
  obtain ⟨u3, us, rfl, r3, hA⟩ := hA.inv
  cases hA.inv0
  cases r0.v_inv
  cases r2.v_inv
  cases r3.v_inv
  have hI : InC w x l := by
    rcases hd with ⟨h0, rfl⟩ | ⟨h0, hd⟩
    · exact .inl ⟨hxl.v_inv, h0⟩
    · rw [SVd_map] at hd
      rcases hxl.cells_at _ hS hd with ⟨e1, _⟩ | ⟨g, o, c, e1, e2, e3⟩
      · exact absurd (by simpa using e1) h0
      · rw [sumC_flat] at e3
        rw [List.length_map] at e1
        exact .inr ⟨g, o, c, e1, e3⟩
  obtain ⟨pt, ct, rfl, hT⟩ : ∃ pt ct, u1 = .slice pt q.types.length ct ∧ TypesAt w pt q.types := by
    rcases hdt with ⟨h0, rfl⟩ | hdt
    · exact ⟨none, 0, by rw [r1.v_inv, h0]; rfl, .inl h0⟩
    rw [types_map] at hdt
    rcases r1.cells_at _ hS hdt with ⟨e2, a, c, e1⟩ | ⟨g, o, c, e1, e2, e3⟩
    · have e2 : q.types = [] := by simpa using e2
      exact ⟨a, c, by rw [e1, e2]; rfl, .inl e2⟩
    · rw [List.length_map] at e1
      refine ⟨_, _, e1, .inr ⟨g, o, rfl, fun j hj => ?_⟩⟩
      refine e3 j _ ?_
      have : (q.types.map fun t => [Value.string t]).flatten = q.types.map Value.string := by
        generalize q.types = z
        induction z with
        | nil => rfl
        | cons a z ih => simp only [List.map_cons, List.flatten_cons, ih]; rfl
      rw [this, List.getElem?_map, List.getElem?_eq_getElem hj, List.getD_eq_getElem?_getD, List.getElem?_eq_getElem hj]
      rfl
  have hf := find_all x l q pt ct w hI hn hx (maxAt hS) hT hl hq h1 h2 h3 h4
  refine hf.mono ?_
  rintro e w' ⟨⟨rp, rc, rfl, hrm, hnw⟩, hb⟩
  have fin : ∀ G', G.le G' → Sim base w' G' σ → Rep G' (.slice rp (pageL q l).length rc) (.lst false 10 ((pageL q l).map SVd)) →
      ∃ σ' G', G.le G' ∧ Sim base w' G' σ' ∧ ((∃ v d, Ending.returned (.tuple #[.agg #[.slice rp (pageL q l).length rc, .int .i64 (fitL q l).length, .int .i64 (nextI q l), .int .i64 (prevI q)], .nilIface]) = .returned v ∧ Rep G' v d ∧
        retO (fun d τ => d = .tup [.agg [.lst false 10 ((pageL q l).map SVd), .i (fitL q l).length, .i (nextI q l), .i (prevI q)], .v .nilIface] ∧ τ = σ) (.ret d) σ') ∨ ∃ v, Ending.returned (.tuple #[.agg #[.slice rp (pageL q l).length rc, .int .i64 (fitL q l).length, .int .i64 (nextI q l), .int .i64 (prevI q)], .nilIface]) = .panicked [{ v := v, recovered := false }] ∧
        retO (fun d τ => d = .tup [.agg [.lst false 10 ((pageL q l).map SVd), .i (fitL q l).length, .i (nextI q l), .i (prevI q)], .v .nilIface] ∧ τ = σ) (.pan v) σ') := by
    intro G' hle hS' hr
    refine ⟨σ, G', hle, hS', .inl ⟨_, _, rfl, ?_, rfl, rfl⟩⟩
    have ha : RepL G' [.slice rp (pageL q l).length rc, .int .i64 (fitL q l).length, .int .i64 (nextI q l), .int .i64 (prevI q)] [.lst false 10 ((pageL q l).map SVd), .i (fitL q l).length, .i (nextI q l), .i (prevI q)] :=
      RepL.cons hr (RepL.cons (.v _) (RepL.cons (.v _) (RepL.cons (.v _) (RepL.nil _))))
    have hag : Rep G' (.agg #[.slice rp (pageL q l).length rc, .int .i64 (fitL q l).length, .int .i64 (nextI q l), .int .i64 (prevI q)]) (.agg [.lst false 10 ((pageL q l).map SVd), .i (fitL q l).length, .i (nextI q l), .i (prevI q)]) :=
      .agg [_, _, _, _] _ ha.len (by simp [Value.oneCell']) ha.rep
    have ht := RepL.cons hag (RepL.cons (.v .nilIface) (RepL.nil G'))
    exact .tup [_, _] _ ht.len ht.rep
  by_cases hp0 : pageL q l = []
  · refine fin G (Gh.le_refl G) (hS.grow hb) ?_
    rw [hp0]
    cases hrp : rp with
    | none =>
      rw [hnw.nn hrp]
      exact .lst0 _ _
    | some a =>
      refine .lst _ _ _ _ (.slice a rc none false 10 [] (fun _ => .bool false) (fun _ => hnw.spot a hrp) (Nat.zero_le _) (by simp) (by simp) (by intro k hk; simp at hk) (by intro k d hk; simp at hk) (by simp))
  · rcases hrm with h | ⟨g, o, hrp, hcell⟩
    · exact absurd h hp0
    · subst hrp
      obtain ⟨G', hle, hS', hG⟩ := hS.newRow hb (o0 := o) (hnw.new g o rfl) (sumC (pageL q l)) (fun k u hk => by
        have hlt : k < (sumC (pageL q l)).length := (List.getElem?_eq_some_iff.1 hk).1
        rw [len_sumC] at hlt
        have hj : k / 10 < (pageL q l).length := by omega
        have hx := List.getElem?_eq_getElem hj
        have hcl : ((pageL q l)[k / 10]).cells.length = 10 := rfl
        have hi : k % 10 < ((pageL q l)[k / 10]).cells.length := by rw [hcl]; omega
        have h2 := hcell (k / 10) _ (k % 10) _ hx (List.getElem?_eq_getElem hi)
        have h3 := sum_get (pageL q l) [] (k / 10) _ (k % 10) _ hx (List.getElem?_eq_getElem hi)
        rw [List.append_nil, show k / 10 * 10 + k % 10 = k by omega, hk] at h3
        injection h3 with h3
        rw [show k / 10 * 10 + k % 10 = k by omega, ← h3] at h2
        exact h2) (by
        intro u hu
        unfold sumC at hu
        obtain ⟨x, _, hu⟩ := List.mem_flatMap.1 hu
        exact one_SV x u hu)
      refine fin G' hle hS' (.lst _ _ _ _ ?_)
      have := rep_row (G := G') (g := g) (o0 := o) (c := rc) (sz := 10) ((pageL q l).map SV.cells) (by intro ys hy; obtain ⟨x, _, rfl⟩ := List.mem_map.1 hy; rfl) (by rw [List.length_map]; exact hnw.le) (by rw [sumC_flat]; exact hG)
      rw [← SVd_map, List.length_map] at this
      exact this
end Go.Proofs.YtmpbofmhjjgccaaDoor
namespace Go.Proofs.YtmpbofmhjjgccaaDoor
open Go.RowKit
set_option maxRecDepth 100000
set_option linter.unusedVariables false
set_option linter.unusedSimpArgs false
attribute [local irreducible] awp aops aop aput aseq ablock TriX Tri Ret Fresh dq adraw dtail dals dfin Wk

set_option maxHeartbeats 4000000 in
theorem foldT (c : UInt8) (σ : St) : Tri Tryd.prog 37 [.v (.int .u8 c.toNat)] σ fun d τ => d = .v (.int .u8 (foldB c).toNat) ∧ τ = σ := by
  have hc256 : c.toNat < 256 := UInt8.toNat_lt c
  by_cases hu : 65 ≤ c.toNat ∧ c.toNat ≤ 90
  · have hup := foldB_up c hu
    have hw : IntKind.u8.wrap ((c.toNat : Int) + 32) = (foldB c).toNat := by rw [IntKind.wrap_u8]; omega
    obtain ⟨hu1, hu2⟩ := hu
    clear hup
    refine tri_fn Tryd.func37 rfl Tryd.ntmps37 Tryd.results37 (Nat.le_of_ble_eq_true rfl) ?_
    refine' wlk0
    ((try simp [*]); (try simp (discharger := omega) only [wrap_i64, dec_t, dec_f]))
    exact .mk _ σ (.refl _) leT ⟨rfl, rfl⟩
  · have hs := foldB_same c hu
    by_cases hu1 : 65 ≤ c.toNat
    · have hu2 : 90 < c.toNat := by omega
      clear hu
      refine tri_fn Tryd.func37 rfl Tryd.ntmps37 Tryd.results37 (Nat.le_of_ble_eq_true rfl) ?_
      refine' wlk0
      ((try simp [*]); (try simp (discharger := omega) only [wrap_i64, dec_t, dec_f]))
      exact .mk _ σ (.refl _) leT ⟨rfl, rfl⟩
    · clear hu
      refine tri_fn Tryd.func37 rfl Tryd.ntmps37 Tryd.results37 (Nat.le_of_ble_eq_true rfl) ?_
      refine' wlk0
      ((try simp [*]); (try simp (discharger := omega) only [wrap_i64, dec_t, dec_f]))
      exact .mk _ σ (.refl _) leT ⟨rfl, rfl⟩
end Go.Proofs.YtmpbofmhjjgccaaDoor
