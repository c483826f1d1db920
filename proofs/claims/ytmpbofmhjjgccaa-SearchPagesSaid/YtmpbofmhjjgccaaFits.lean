/-
  Fits: a question, a summary.
-/
import Derived.Test.YtmpbofmhjjgccaaStands
namespace Go.Proofs.Ytmpbofmhjjgccaa
open Go.RowKit
set_option maxRecDepth 100000
set_option linter.unusedVariables false
set_option linter.unusedSimpArgs false

/-- A summary. -/
structure SV where
  room : ByteArray
  typ : ByteArray
  name : ByteArray
  topic : ByteArray
  alias : ByteArray
  avatar : ByteArray
  rule : ByteArray
  joined : Int
  readable : Bool
  guests : Bool
def SV.cells (x : SV) : List Value := [.string x.room, .string x.typ, .string x.name, .string x.topic, .string x.alias, .string x.avatar, .string x.rule, .int .i64 x.joined, .bool x.readable, .bool x.guests]
/-- A question, but for where its types lie. -/
structure QV where
  term : ByteArray
  types : List ByteArray
  limit : Int
  since : Int
def QV.cells (q : QV) (p : Option Addr) (c : Nat) : List Value := [.string q.term, .slice p q.types.length c, .int .i64 q.limit, .int .i64 q.since]
/-- The question's types in memory. -/
def TypesAt (w : World) (p : Option Addr) (ts : List ByteArray) : Prop := ts = [] ∨ ∃ b o, p = some ⟨b, o, none⟩ ∧ ∀ j, j < ts.length → w.cell? ⟨b, o + j, none⟩ = some (.string (ts.getD j ByteArray.empty))
theorem TypesAt.below {w w' : World} {p : Option Addr} {ts : List ByteArray} (h : TypesAt w p ts) (hb : Below w.heap.size w w') : TypesAt w' p ts := by
  rcases h with h | ⟨b, o, h1, h2⟩
  · exact .inl h
  · exact .inr ⟨b, o, h1, fun j hj => (hb.cell (World.block_lt_of_cell? w _ (h2 j hj))).trans (h2 j hj)⟩
def typeB (q : QV) (x : SV) : Bool := q.types.isEmpty || Lib.containsS q.types x.typ
def fitsB (q : QV) (x : SV) : Bool := [x.name, x.topic, x.alias].any (standsB (foldS q.term)) && typeB q x
/-- Its texts aren't too long. -/
structure SmallS (x : SV) : Prop where
  name : x.name.size < 4294967281
  topic : x.topic.size < 4294967281
  alias : x.alias.size < 4294967281

theorem contains_types (q : QV) (p : Option Addr) (c : Nat) (x : ByteArray) (w : World) (hT : TypesAt w p q.types) (hl : q.types.length ≤ 1000) (hne : q.types ≠ []) :
    Calls Try.prog 25 #[.slice p q.types.length c, .string x] w fun e w' => e = .returned (.bool (Lib.containsS q.types x)) ∧ w' = w := by
  rcases hT with h | ⟨b, o, rfl, h2⟩
  · exact absurd h hne
  · have := Try.slices_Contains_string b o q.types.length c q.types x w (Nat.le_refl _) (by omega) h2
    rw [List.take_length] at this
    exact this

set_option maxHeartbeats 4000000 in
theorem fits_any (q : QV) (p : Option Addr) (c : Nat) (x : SV) (w : World) (hM : MaxAt w) (hT : TypesAt w p q.types) (hl : q.types.length ≤ 1000) (hq : q.term.size ≤ maxLen) (hx : SmallS x) :
    Calls Try.prog 17 #[.agg (q.cells p c).toArray, .agg x.cells.toArray] w fun e w' => e = .returned (.bool (fitsB q x)) ∧ Below w.heap.size w w' := by
  have hfold := fun W : World => fold_any q.term W hq
  have HM := Lib.hid hM
  have HT := Lib.hid hT
  have HX := Lib.hid hx
  unfold QV.cells SV.cells
  clear hM hT hx hq
  go_enter Try.func17, Try.ntmps17
  go_upto_region 1 with fail
  have hb0 : Below w.heap.size w ((w.alloc (.cells #[.string q.term, .slice p q.types.length c, .int .i64 q.limit, .int .i64 q.since] 29)).alloc (.cells #[.string x.room, .string x.typ, .string x.name, .string x.topic, .string x.alias, .string x.avatar, .string x.rule, .int .i64 x.joined, .bool x.readable, .bool x.guests] 42)) := ((Below.refl _ w).alloc (Nat.le_refl _) _).alloc (((Below.refl _ w).alloc (Nat.le_refl _) _).size) _
  have hQ0 : ((w.alloc (.cells #[.string q.term, .slice p q.types.length c, .int .i64 q.limit, .int .i64 q.since] 29)).alloc (.cells #[.string x.room, .string x.typ, .string x.name, .string x.topic, .string x.alias, .string x.avatar, .string x.rule, .int .i64 x.joined, .bool x.readable, .bool x.guests] 42)).heap[w.heap.size]? = some (.cells #[.string q.term, .slice p q.types.length c, .int .i64 q.limit, .int .i64 q.since] 29 (0, 0)) := (heap_alloc_old _ _ (by simp)).trans (heap_alloc_new _ _)
  have hS0 : ((w.alloc (.cells #[.string q.term, .slice p q.types.length c, .int .i64 q.limit, .int .i64 q.since] 29)).alloc (.cells #[.string x.room, .string x.typ, .string x.name, .string x.topic, .string x.alias, .string x.avatar, .string x.rule, .int .i64 x.joined, .bool x.readable, .bool x.guests] 42)).heap[w.heap.size + 1]? = some (.cells #[.string x.room, .string x.typ, .string x.name, .string x.topic, .string x.alias, .string x.avatar, .string x.rule, .int .i64 x.joined, .bool x.readable, .bool x.guests] 42 (0, 0)) := by
    have := heap_alloc_new (w.alloc (.cells #[.string q.term, .slice p q.types.length c, .int .i64 q.limit, .int .i64 q.since] 29)) (.cells #[.string x.room, .string x.typ, .string x.name, .string x.topic, .string x.alias, .string x.avatar, .string x.rule, .int .i64 x.joined, .bool x.readable, .bool x.guests] 42)
    rw [show (w.alloc (.cells #[.string q.term, .slice p q.types.length c, .int .i64 q.limit, .int .i64 q.since] 29)).heap.size = w.heap.size + 1 by simp] at this
    exact this
  generalize ((w.alloc (.cells #[.string q.term, .slice p q.types.length c, .int .i64 q.limit, .int .i64 q.since] 29)).alloc (.cells #[.string x.room, .string x.typ, .string x.name, .string x.topic, .string x.alias, .string x.avatar, .string x.rule, .int .i64 x.joined, .bool x.readable, .bool x.guests] 42)) = W1 at hb0 hQ0 hS0 ⊢
  have k0 : W1.cell? ⟨w.heap.size, 0, none⟩ = some (.string q.term) := by rw [blk_cell hQ0]; rfl
  have HQ0 := Lib.hid hQ0
  have HS0 := Lib.hid hS0
  clear hQ0 hS0
  go_wp2_with fail
  refine (hfold _).mono ?_
  rintro e w2 ⟨rfl, hb2⟩
  have hB2 := hb0.trans (hb2.mono hb0.size)
  have hQ2 := (hb2.block _ (blk_lt HQ0.out)).trans HQ0.out
  have hS2 := (hb2.block _ (blk_lt HS0.out)).trans HS0.out
  clear hfold k0
  generalize hft : foldS q.term = ft
  have HFT := Lib.hid hft
  have hlt2 : w.heap.size + 1 < w2.heap.size := blk_lt hS2
  have s2 : w2.cell? ⟨w.heap.size + 1, 2, none⟩ = some (.string x.name) := by rw [blk_cell hS2]; rfl
  have s3 : w2.cell? ⟨w.heap.size + 1, 3, none⟩ = some (.string x.topic) := by rw [blk_cell hS2]; rfl
  have s4 : w2.cell? ⟨w.heap.size + 1, 4, none⟩ = some (.string x.alias) := by rw [blk_cell hS2]; rfl
  have hb3 : Below w2.heap.size w2 ((w2.alloc (.cells #[.string ft] 9)).alloc (.cells #[.string x.name, .string x.topic, .string x.alias] 9)) := ((Below.refl _ w2).alloc (Nat.le_refl _) _).alloc (((Below.refl _ w2).alloc (Nat.le_refl _) _).size) _
  have hB3 := hB2.trans (hb3.mono hB2.size)
  have ht3 : ((w2.alloc (.cells #[.string ft] 9)).alloc (.cells #[.string x.name, .string x.topic, .string x.alias] 9)).cell? ⟨w2.heap.size, 0, none⟩ = some (.string ft) := by
    have : ((w2.alloc (.cells #[.string ft] 9)).alloc (.cells #[.string x.name, .string x.topic, .string x.alias] 9)).heap[w2.heap.size]? = some (.cells #[.string ft] 9 (0, 0)) := (heap_alloc_old _ _ (by simp)).trans (heap_alloc_new _ _)
    rw [blk_cell this]; rfl
  have hz3 : StrsAt ((w2.alloc (.cells #[.string ft] 9)).alloc (.cells #[.string x.name, .string x.topic, .string x.alias] 9)) (some ⟨w2.heap.size + 1, 0, none⟩) [x.name, x.topic, x.alias] := by
    intro j sj hj
    refine ⟨_, rfl, ?_⟩
    have hh : ((w2.alloc (.cells #[.string ft] 9)).alloc (.cells #[.string x.name, .string x.topic, .string x.alias] 9)).heap[w2.heap.size + 1]? = some (.cells #[.string x.name, .string x.topic, .string x.alias] 9 (0, 0)) := by
      have := heap_alloc_new (w2.alloc (.cells #[.string ft] 9)) (.cells #[.string x.name, .string x.topic, .string x.alias] 9)
      rw [show (w2.alloc (.cells #[.string ft] 9)).heap.size = w2.heap.size + 1 by simp] at this
      exact this
    have ha : (⟨w2.heap.size + 1, 0, none⟩ : Addr).add j = ⟨w2.heap.size + 1, j, none⟩ := by unfold Addr.add; split <;> simp_all
    rw [ha, blk_cell hh]
    match j, hj with
    | 0, hj => simp at hj; subst hj; rfl
    | 1, hj => simp at hj; subst hj; rfl
    | 2, hj => simp at hj; subst hj; rfl
    | j + 3, hj => simp at hj
  have h5 := containsFunc_any (some ⟨w2.heap.size + 1, 0, none⟩) [x.name, x.topic, x.alias] 3 ⟨w2.heap.size, 0, none⟩ ft _ (HM.out.below hB3) ht3 hz3 (by simp) (by
    intro sj hj
    simp at hj
    rcases hj with rfl | rfl | rfl
    · exact HX.out.name
    · exact HX.out.topic
    · exact HX.out.alias)
  change Calls Try.prog _ #[.slice _ 3 3, _] _ _ at h5
  have HQ2 := Lib.hid hQ2
  have HS2 := Lib.hid hS2
  have hfits : fitsB q x = ([x.name, x.topic, x.alias].any (standsB ft) && typeB q x) := by rw [← HFT.out]; rfl
  have HFITS := Lib.hid hfits
  clear hft hfits HQ0 HS0 hQ2 hS2 ht3 hz3
  generalize [x.name, x.topic, x.alias].any (standsB ft) = b1 at h5 HFITS
  go_wp2_with fail
  refine h5.mono ?_
  rintro e w5 ⟨rfl, hb5⟩
  have hb25 := hb3.trans (hb5.mono hb3.size)
  have hB5 := hB3.trans (hb5.mono hB3.size)
  clear h5 s2 s3 s4
  cases b1
  · go_wp2_with fail
    go_ret
    exact ⟨by rw [HFITS.out]; rfl, hB5⟩
  · have hQ5 := (hb25.block _ (blk_lt HQ2.out)).trans HQ2.out
    have hS5 := (hb25.block _ (blk_lt HS2.out)).trans HS2.out
    have q1 : w5.cell? ⟨w.heap.size, 1, none⟩ = some (.slice p q.types.length c) := by rw [blk_cell hQ5]; rfl
    have s1 : w5.cell? ⟨w.heap.size + 1, 1, none⟩ = some (.string x.typ) := by rw [blk_cell hS5]; rfl
    by_cases hne : q.types = []
    · have h0 : q.types.length = 0 := by rw [hne]; rfl
      have htB : typeB q x = true := by unfold typeB; rw [hne]; rfl
      rw [htB] at HFITS
      rw [h0] at q1
      clear hQ5 hS5 htB hne
      go_wp2_with fail
      go_ret
      exact ⟨by rw [HFITS.out]; rfl, hB5⟩
    · have h6 := contains_types q p c x.typ w5 (HT.out.below hB5) hl hne
      have htB : typeB q x = Lib.containsS q.types x.typ := by
        unfold typeB
        cases hc : q.types with
        | nil => exact absurd hc hne
        | cons a r => rfl
      rw [htB] at HFITS
      have hlen : ((q.types.length : Int) == 0) = false := by
        rw [beq_eq_false_iff_ne]
        have : q.types.length ≠ 0 := fun e => hne (List.eq_nil_of_length_eq_zero e)
        omega
      clear hQ5 hS5 htB hne
      generalize Lib.containsS q.types x.typ = b2 at h6 HFITS
      go_wp2_with fail
      refine h6.mono ?_
      rintro e w6 ⟨rfl, rfl⟩
      clear h6
      go_wp2_with fail
      go_ret
      exact ⟨by rw [HFITS.out]; rfl, hB5⟩

end Go.Proofs.Ytmpbofmhjjgccaa
