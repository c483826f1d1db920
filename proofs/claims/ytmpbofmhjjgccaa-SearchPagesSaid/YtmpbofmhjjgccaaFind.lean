/-
  Clone and Find.
-/
import Derived.Test.YtmpbofmhjjgccaaDelete
namespace Go.Proofs.Ytmpbofmhjjgccaa
open Go.RowKit
set_option maxRecDepth 100000
set_option linter.unusedVariables false
set_option linter.unusedSimpArgs false

/-- Summaries in a row, or none. -/
def InAt (w : World) (v : Value) (l : List SV) : Prop := (v = .slice none 0 0 ∧ l = []) ∨ ∃ g cap sp, v = .slice (some ⟨g, 0, none⟩) l.length cap ∧ 0 < l.length ∧ RowS w g l sp
theorem InAt.below {w w' : World} {v : Value} {l : List SV} (h : InAt w v l) (hb : Below w.heap.size w w') : InAt w' v l := by
  rcases h with h | ⟨g, cap, sp, h1, h2, h3⟩
  · exact .inl h
  · exact .inr ⟨g, cap, sp, h1, h2, h3.below hb⟩

/-- The same, cell by cell, wherever the row lies. -/
def InC (w : World) (v : Value) (l : List SV) : Prop := (v = .slice none 0 0 ∧ l = []) ∨ ∃ g o cap, v = .slice (some ⟨g, o, none⟩) l.length cap ∧ ∀ k u, (sumC l)[k]? = some u → w.cell? ⟨g, o + k, none⟩ = some u
theorem InC.below {w w' : World} {v : Value} {l : List SV} (h : InC w v l) (hb : Below w.heap.size w w') : InC w' v l := by
  rcases h with h | ⟨g, o, cap, h1, h2⟩
  · exact .inl h
  · exact .inr ⟨g, o, cap, h1, fun k u hk => (hb.cell (World.block_lt_of_cell? w _ (h2 k u hk))).trans (h2 k u hk)⟩
theorem InAt.toC {w : World} {v : Value} {l : List SV} (h : InAt w v l) : InC w v l := by
  rcases h with h | ⟨g, cap, sp, h1, h2, h3⟩
  · exact .inl h
  · refine .inr ⟨g, 0, cap, h1, fun k u hk => ?_⟩
    have hlt : k < (sumC l).length := (List.getElem?_eq_some_iff.1 hk).1
    rw [Nat.zero_add, blk_cell h3, List.getElem?_toArray, List.getElem?_append_left hlt]
    exact hk
/-- The same, of a row that lies behind a bound. -/
def OwnAt (w : World) (base : Nat) (v : Value) (l : List SV) : Prop := (v = .slice none 0 0 ∧ l = []) ∨ ∃ g cap sp, v = .slice (some ⟨g, 0, none⟩) l.length cap ∧ l.length ≤ cap ∧ RowS w g l sp ∧ base ≤ g
theorem own_row {w : World} {base : Nat} {v : Value} {l : List SV} (h : w.ownsRow base 42 10 v l.length (sumC l)) : OwnAt w base v l := by
  obtain ⟨hl, h⟩ := h
  rcases h with ⟨hv, h0⟩ | ⟨b, cap, cur, rfl, hb, hh, hnc, _, hs, ht⟩
  · exact .inl ⟨hv, List.eq_nil_of_length_eq_zero h0⟩
  · refine .inr ⟨b, cap, cur.toList.drop (l.length * 10), rfl, hnc, ?_, hb⟩
    unfold RowS
    rw [hh, ← ht, List.take_append_drop]

theorem own_laid {w : World} {base e size n : Nat} {v : Value} {xs : List Value} (h : w.ownsRow base e size v n xs) (hn : 0 < n) :
    ∃ b cap sp, v = .slice (some ⟨b, 0, none⟩) n cap ∧ base ≤ b ∧ n ≤ cap ∧ w.heap[b]? = some (.cells (xs ++ sp).toArray e (0, 0)) := by
  obtain ⟨hl, h⟩ := h
  rcases h with ⟨_, h0⟩ | ⟨b, cap, cur, rfl, hb, hh, hnc, _, hs, ht⟩
  · omega
  · refine ⟨b, cap, cur.toList.drop (n * size), rfl, hb, hnc, ?_⟩
    rw [hh, ← ht, List.take_append_drop]

set_option maxHeartbeats 4000000 in
theorem clone_nil (w : World) :
    Calls Try.prog 15 #[.slice none 0 0] w fun e w' => e = .returned (.slice none 0 0) ∧ w' = w := by
  have hnl := fun W => Lib.run_eql_slice_nil (P := Try.prog) W 28 42 none 0 0 0 0 Try.underlying28
  go_enter Try.func15, Try.ntmps15
  go_wp2_with fail
  go_ret
  exact ⟨rfl, rfl⟩

set_option maxHeartbeats 4000000 in
theorem clone_row (g o : Nat) (l : List SV) (cap : Nat) (w : World) (hR : ∀ k u, (sumC l)[k]? = some u → w.cell? ⟨g, o + k, none⟩ = some u) (hn : l.length ≤ 1000) :
    Calls Try.prog 15 #[.slice (some ⟨g, o, none⟩) l.length cap] w fun e w' =>
      (∃ v', e = .returned v' ∧ OwnAt w' w.heap.size v' l) ∧ Below w.heap.size w w' := by
  obtain ⟨i0, hi, hz0, hz1, hz2⟩ := info_parts infoSum
  have hnl := fun W => Lib.run_eql_slice_nil (P := Try.prog) W 28 42 (some ⟨g, o, none⟩) l.length cap 0 0 Try.underlying28
  have HR := Lib.hid hR
  have HI := Lib.hid hi
  have HZ := Lib.hid hz0
  clear hR hi hz0
  have h1 : ∀ u ∈ sumC l, u.oneCell' = true := by
    intro u hu
    unfold sumC at hu
    obtain ⟨x, _, hu⟩ := List.mem_flatMap.1 hu
    exact one_SV x u hu
  have H1 := Lib.hid h1
  clear h1
  go_enter Try.func15, Try.ntmps15
  go_upto_region 3 with fail
  have hb1 : Below w.heap.size w (w.alloc (.cells #[] 42)) := (Below.refl _ w).alloc (Nat.le_refl _) _
  have hown : (w.alloc (.cells #[] 42)).ownsRow w.heap.size 42 10 (.slice (some ⟨w.heap.size, 0, none⟩) 0 0) 0 [] :=
    ⟨rfl, .inr ⟨w.heap.size, 0, #[], rfl, Nat.le_refl _, heap_alloc_new _ _, Nat.le_refl _, Nat.zero_le _, rfl, rfl⟩⟩
  have HO := Lib.hid hown
  clear hown
  go_wp2_with (at_builtin; go_loud (refine wpList_append_own _ rfl (.tmp 5) (.tmp 6) 28 rfl w.heap.size 42 i0 _ 10 128 Try.underlying28 HI.out HZ.out hz1 hz2 rfl (by decide) (.slice (some ⟨w.heap.size, 0, none⟩) 0 0) 0 [] rfl HO.out ⟨g, o, none⟩ l.length cap (sumC l) rfl (len_sumC l) ?hn H1.out ?h6 ?h7 (by simp) ?hk))
  case hn =>
    intro j u hj
    have hc := HR.out j u hj
    rw [addr_add]
    exact (hb1.cell (World.block_lt_of_cell? w _ hc)).trans hc
  case h6 => unfold maxLen; omega
  case h7 => omega
  case hk =>
    intro v' w' ho hg _
    go_wp2
    go_ret
    refine ⟨⟨_, rfl, own_row ho⟩, hb1.grown hg (by simp) (fun k hk => ?_)⟩
    simp [Value.ownBlock] at hk
    omega

theorem clone_in (v : Value) (l : List SV) (w : World) (hI : InC w v l) (hn : l.length ≤ 1000) :
    Calls Try.prog 15 #[v] w fun e w' => (∃ v', e = .returned v' ∧ OwnAt w' w.heap.size v' l) ∧ Below w.heap.size w w' := by
  rcases hI with ⟨rfl, rfl⟩ | ⟨g, o, cap, rfl, hR⟩
  · refine (clone_nil w).mono ?_
    rintro e w' ⟨rfl, rfl⟩
    exact ⟨⟨_, rfl, .inl ⟨rfl, rfl⟩⟩, Below.refl _ _⟩
  · exact clone_row g o l cap w hR hn
/-- Rooms, in memory. -/
def RoomsAt (w : World) (p : Option Addr) (l : List SV) : Prop := l = [] ∨ ∃ g o, p = some ⟨g, o, none⟩ ∧ ∀ j x i u, l[j]? = some x → x.cells[i]? = some u → w.cell? ⟨g, o + (j * 10 + i), none⟩ = some u
theorem delete_in (v : Value) (l : List SV) (base : Nat) (qa : Nat) (q : QV) (p : Option Addr) (c : Nat) (w : World) (hO : OwnAt w base v l) (hn : l.length ≤ 1000) (hE : QEnv w qa q p c) (hl : q.types.length ≤ 1000) (hq : q.term.size ≤ maxLen) (hx : ∀ x ∈ l, SmallS x)
    (h0 : 0 < base) (hbs : base ≤ w.heap.size) (hp : q.types ≠ [] → ∀ b o, p = some ⟨b, o, none⟩ → b < base) :
    Calls Try.prog 14 #[v, .func (.func 16) #[] #[.pointer (some ⟨qa, 0, none⟩)]] w fun e w' =>
      (∃ g cap, (e = .returned (.slice (g.map fun g => ⟨g, 0, none⟩) (l.filter (fitsB q)).length cap) ∧ (l.filter (fitsB q)).length ≤ cap ∧ (∀ b, g = some b → base ≤ b ∧ b < w'.heap.size) ∧ (g = none → cap = 0)) ∧ RoomsAt w' (g.map fun g => ⟨g, 0, none⟩) (l.filter (fitsB q))) ∧ Below base w w' := by
  rcases hO with ⟨rfl, rfl⟩ | ⟨g, cap, sp, rfl, h1, hR, hg⟩
  · refine (deleteS_nil qa w).mono ?_
    rintro e w' ⟨rfl, rfl⟩
    exact ⟨⟨none, 0, ⟨rfl, Nat.le_refl _, by simp, fun _ => rfl⟩, .inl rfl⟩, Below.refl _ _⟩
  · refine (deleteS_any g l sp cap qa q p c w hR hn h1 hE hl hq hx (by omega) (fun h0 b o hb => by have := hp h0 b o hb; omega)).mono ?_
    rintro e w' ⟨rfl, ⟨sp', hR'⟩, hgr⟩
    refine ⟨⟨some g, cap, ⟨rfl, Nat.le_trans (List.length_filter_le _ _) h1, by rintro b ⟨⟩; exact ⟨hg, blk_lt hR'⟩, by simp⟩, .inr ⟨g, 0, rfl, fun j x i u hj hi => ?_⟩⟩, ⟨hgr.os, hgr.tape, hgr.output, hgr.size, fun k hk => ?_⟩⟩
    · rw [Nat.zero_add]
      exact hR'.cell j x hj i u hi
    · by_cases hkg : k = g
      · omega
      · exact hgr.block k (by omega) (fun e => hkg (Option.some.inj e))

def fitL (q : QV) (l : List SV) : List SV := l.filter (fitsB q)
def restL (q : QV) (l : List SV) : List SV := (fitL q l).drop (min q.since.toNat (fitL q l).length)
def pageL (q : QV) (l : List SV) : List SV := (restL q l).take (min q.limit.toNat (restL q l).length)
def nextI (q : QV) (l : List SV) : Int := if q.limit < (restL q l).length then q.since + q.limit else -1
def prevI (q : QV) : Int := if 0 < q.since then max 0 (q.since - q.limit) else -1

def subP (gg : Option Nat) (cap : Nat) (k : Int) : Option Addr := if cap = k.toNat then Option.map (fun g : Nat => (⟨g, 0, none⟩ : Addr)) gg else Option.map ((fun x : Addr => x.add (k.toNat * 10)) ∘ fun g : Nat => (⟨g, 0, none⟩ : Addr)) gg
theorem rooms_page (W : World) (gg : Option Nat) (l : List SV) (q : QV) (cap : Nat) (h : RoomsAt W (gg.map fun g => ⟨g, 0, none⟩) (fitL q l)) (h3 : 0 ≤ q.since) (hcap : (fitL q l).length ≤ cap) :
    RoomsAt W (subP gg cap (min q.since (fitL q l).length)) (pageL q l) := by
  unfold subP
  have e0 : (min q.since (fitL q l).length).toNat = min q.since.toNat (fitL q l).length := by omega
  rw [e0]
  by_cases hp : pageL q l = []
  · exact .inl hp
  · have hc : ¬ cap = min q.since.toNat (fitL q l).length := by
      intro e
      apply hp
      have : restL q l = [] := List.drop_eq_nil_of_le (by omega)
      simp [pageL, this]
    rw [if_neg hc]
    rcases h with h | ⟨g, o, h1, h2⟩
    · exact absurd (by simp [pageL, restL, h]) hp
    · cases gg with
      | none => cases h1
      | some b =>
        injection h1 with h1
        injection h1 with h1 h1'
        subst h1
        subst h1'
        refine .inr ⟨b, min q.since.toNat (fitL q l).length * 10, by show some ((⟨b, 0, none⟩ : Addr).add _) = _; rw [addr_add, Nat.zero_add], fun j x i u hj hi => ?_⟩
        have hj2 : (fitL q l)[min q.since.toNat (fitL q l).length + j]? = some x := by
          unfold pageL restL at hj
          rw [List.getElem?_take] at hj
          split at hj
          · rwa [List.getElem?_drop] at hj
          · cases hj
        have := h2 _ x i u hj2 hi
        rw [← this]
        congr 2
        rw [Nat.zero_add, Nat.add_mul, Nat.add_assoc]

theorem subP_block (gg : Option Nat) (cap : Nat) (k : Int) (b o : Nat) (h : subP gg cap k = some ⟨b, o, none⟩) : gg = some b := by
  unfold subP at h
  cases gg with
  | none => split at h <;> cases h
  | some g =>
    split at h
    · injection h with h
      injection h with h
      rw [h]
    · injection h with h
      have h : (⟨g, 0, none⟩ : Addr).add (k.toNat * 10) = ⟨b, o, none⟩ := h
      rw [addr_add] at h
      injection h with h
      rw [h]
/-- Just two blocks turn. -/
def OffB (W W' : World) (ab rb : Nat) : Prop := ∀ a : Addr, a.block ≠ ab → a.block ≠ rb → W'.cell? a = W.cell? a
theorem OffB.refl (W : World) (ab rb : Nat) : OffB W W ab rb := fun _ _ _ => rfl
theorem OffB.set {W W' : World} {ab rb : Nat} (h : OffB W W' ab rb) (x : Addr) (v : Value) (hx : x.block = ab ∨ x.block = rb) : OffB W (W'.setCell x v) ab rb := fun a h1 h2 => by
  exact (World.cell?_setCell_other _ _ _ _ (by rintro rfl; rcases hx with hx | hx <;> contradiction)).trans (h a h1 h2)
theorem RoomsAt.off {W W' : World} {ab rb : Nat} {P : Option Addr} {l : List SV} (h : RoomsAt W P l) (ho : OffB W W' ab rb) (hp : ∀ b o, P = some ⟨b, o, none⟩ → b ≠ ab ∧ b ≠ rb) : RoomsAt W' P l := by
  rcases h with h | ⟨g, o, h1, h2⟩
  · exact .inl h
  · have := hp g o h1
    exact .inr ⟨g, o, h1, fun j x i u hj hi => (ho _ this.1 this.2).trans (h2 j x i u hj hi)⟩

/-- What Find answers. -/
structure Found (q : QV) (l : List SV) (w : World) (e : Ending) (w' : World) : Prop where
  out : ∃ rp rc, e = .returned (.tuple #[.agg #[.slice rp (pageL q l).length rc, .int .i64 (fitL q l).length, .int .i64 (nextI q l), .int .i64 (prevI q)], .nilIface]) ∧ RoomsAt w' rp (pageL q l)
  below : Below w.heap.size w w'
/-- The rooms lie in new memory. -/
structure NewRooms (w : World) (rp : Option Addr) (n rc : Nat) : Prop where
  le : n ≤ rc
  new : ∀ b o, rp = some ⟨b, o, none⟩ → w.heap.size ≤ b
  nn : rp = none → rc = 0
  spot : ∀ a, rp = some a → a.spot = none
structure FoundN (q : QV) (l : List SV) (w : World) (e : Ending) (w' : World) : Prop where
  out : ∃ rp rc, e = .returned (.tuple #[.agg #[.slice rp (pageL q l).length rc, .int .i64 (fitL q l).length, .int .i64 (nextI q l), .int .i64 (prevI q)], .nilIface]) ∧ RoomsAt w' rp (pageL q l) ∧ NewRooms w rp (pageL q l).length rc
  below : Below w.heap.size w w'
theorem FoundN.found {q : QV} {l : List SV} {w : World} {e : Ending} {w' : World} (h : FoundN q l w e w') : Found q l w e w' := by
  obtain ⟨⟨rp, rc, h1, h2, _⟩, hb⟩ := h
  exact ⟨⟨rp, rc, h1, h2⟩, hb⟩
theorem subP_none (cap : Nat) (k : Int) : subP none cap k = none := by unfold subP; split <;> rfl
theorem subP_spot (gg : Option Nat) (cap : Nat) (k : Int) (a : Addr) (h : subP gg cap k = some a) : a.spot = none := by
  unfold subP at h
  cases gg with
  | none => split at h <;> cases h
  | some g =>
    split at h
    · injection h with h; rw [← h]
    · injection h with h
      have h : (⟨g, 0, none⟩ : Addr).add (k.toNat * 10) = a := h
      rw [addr_add] at h
      rw [← h]
theorem subP_some (g cap : Nat) (k : Int) : subP (some g) cap k ≠ none := by unfold subP; split <;> simp

set_option maxHeartbeats 8000000 in
theorem find_all (v : Value) (l : List SV) (q : QV) (p : Option Addr) (c : Nat) (w : World) (hI : InC w v l) (hn : l.length ≤ 1000) (hx : ∀ x ∈ l, SmallS x) (hM : MaxAt w) (hT : TypesAt w p q.types) (hl : q.types.length ≤ 1000) (hq : q.term.size ≤ maxLen)
    (h1 : 1 ≤ q.limit) (h2 : q.limit ≤ 50) (h3 : 0 ≤ q.since) (h4 : q.since < 9223372036854775807) :
    Calls Try.prog 8 #[v, .agg (q.cells p c).toArray] w (FoundN q l w) := by
  have hb0 : Below w.heap.size w (w.alloc (.cells (q.cells p c).toArray 29)) := (Below.refl _ w).alloc (Nat.le_refl _) _
  have hq0 : QAt (w.alloc (.cells (q.cells p c).toArray 29)) w.heap.size q p c := heap_alloc_new _ _
  have HI := Lib.hid hI
  have HX := Lib.hid hx
  have HM := Lib.hid hM
  have HT := Lib.hid hT
  have HL := Lib.hid hl
  have HQ := Lib.hid hq
  have hp : q.types ≠ [] → ∀ b o, p = some ⟨b, o, none⟩ → b < w.heap.size := by
    rintro h0 b o rfl
    rcases hT with h | ⟨b', o', h1, h2⟩
    · exact absurd h h0
    · injection h1 with h1
      injection h1 with e1 e2
      subst e1; subst e2
      have := World.block_lt_of_cell? w _ (h2 0 (by cases hq : q.types with | nil => exact absurd hq h0 | cons => simp))
      simpa using this
  have HP := Lib.hid hp
  have HB0 := Lib.hid hb0
  have HQ0 := Lib.hid hq0
  clear hI hx hM hT hl hq hp hb0 hq0
  unfold QV.cells
  go_enter Try.func8, Try.ntmps8
  go_upto_region 5 with fail
  have e1 : (w.alloc (.cells #[.string q.term, .slice p q.types.length c, .int .i64 q.limit, .int .i64 q.since] 29)) = w.alloc (.cells (q.cells p c).toArray 29) := rfl
  rw [e1]
  have hr0 : (w.alloc (.cells (q.cells p c).toArray 29)).heap.size = w.heap.size + 1 := by simp
  generalize w.alloc (.cells (q.cells p c).toArray 29) = W0 at HB0 HQ0 hr0 ⊢
  have hb1 := HB0.out.alloc HB0.out.size (.cells #[.slice none 0 0, .int .i64 0, .int .i64 0, .int .i64 0] 32)
  have hA1 := heap_alloc_new W0 (.cells #[.slice none 0 0, .int .i64 0, .int .i64 0, .int .i64 0] 32)
  have hQ1 : QAt (W0.alloc (.cells #[.slice none 0 0, .int .i64 0, .int .i64 0, .int .i64 0] 32)) w.heap.size q p c := (heap_alloc_old _ _ (blk_lt HQ0.out)).trans HQ0.out
  go_wp2_with fail
  generalize W0.alloc (.cells #[.slice none 0 0, .int .i64 0, .int .i64 0, .int .i64 0] 32) = W1 at hb1 hA1 hQ1 ⊢
  have hc := clone_in v l W1 (HI.out.below hb1) hn
  refine hc.mono ?_
  rintro e W2 ⟨⟨v2, rfl, hO⟩, hb12⟩
  have hb2 := hb1.trans (hb12.mono hb1.size)
  have hQ2 := hQ1.below hb12
  have hd := delete_in v2 l W1.heap.size w.heap.size q p c W2 hO hn ⟨hQ2, HM.out.below hb2, HT.out.below hb2⟩ HL.out HQ.out HX.out (by have := blk_lt hQ1; omega) hb12.size (fun h0 b o hb => Nat.lt_of_lt_of_le (HP.out h0 b o hb) hb1.size)
  clear hc
  go_wp2_with fail
  refine hd.mono ?_
  rintro e W3 ⟨⟨gg, cap, ⟨rfl, hcap, hgc, hg0⟩, hrooms⟩, hb23⟩
  clear hd
  have hb3 := hb2.trans (hb23.mono hb1.size)
  have hQ3 := (hb23.block _ (blk_lt hQ1)).trans hQ2
  have hA3 := (hb23.block _ (blk_lt hA1)).trans ((hb12.block _ (blk_lt hA1)).trans hA1)
  have k0 : W3.cell? ⟨w.heap.size, 0, none⟩ = some (.string q.term) := by rw [blk_cell hQ3]; rfl
  have k2 : W3.cell? ⟨w.heap.size, 2, none⟩ = some (.int .i64 q.limit) := by rw [blk_cell hQ3]; rfl
  have k3 : W3.cell? ⟨w.heap.size, 3, none⟩ = some (.int .i64 q.since) := by rw [blk_cell hQ3]; rfl
  go_upto_region 7 with fail
  have hA4 : (W3.alloc (.cells #[.slice none 0 0, .int .i64 (l.filter (fitsB q)).length, .int .i64 (-1), .int .i64 (-1)] 32)).heap[W3.heap.size]? = _ := heap_alloc_new _ _
  have hb4 := hb3.alloc hb3.size (.cells #[.slice none 0 0, .int .i64 (l.filter (fitsB q)).length, .int .i64 (-1), .int .i64 (-1)] 32)
  have hbx := (Below.refl W3.heap.size W3).alloc (Nat.le_refl _) (.cells #[.slice none 0 0, .int .i64 (l.filter (fitsB q)).length, .int .i64 (-1), .int .i64 (-1)] 32)
  have hQ4 := (hbx.block _ (blk_lt hQ3)).trans hQ3
  have hR4 := (hbx.block _ (blk_lt hA3)).trans hA3
  have hrm4 : RoomsAt (W3.alloc (.cells #[.slice none 0 0, .int .i64 (l.filter (fitsB q)).length, .int .i64 (-1), .int .i64 (-1)] 32)) (gg.map fun g => ⟨g, 0, none⟩) (l.filter (fitsB q)) := by
    rcases hrooms with h | ⟨g, o, h1, h2⟩
    · exact .inl h
    · exact .inr ⟨g, o, h1, fun j x i u hj hi => (hbx.cell (World.block_lt_of_cell? _ _ (h2 j x i u hj hi))).trans (h2 j x i u hj hi)⟩
  have hq3 : w.heap.size < W3.heap.size := blk_lt hQ3
  have hr3 : W0.heap.size < W3.heap.size := blk_lt hA3
  have hqr : w.heap.size < W0.heap.size := blk_lt HQ0.out
  have hab : W3.heap.size < (W3.alloc (.cells #[.slice none 0 0, .int .i64 (l.filter (fitsB q)).length, .int .i64 (-1), .int .i64 (-1)] 32)).heap.size := blk_lt hA4
  rw [hr0] at hA3 hR4 hr3 hqr
  clear k0 k2 k3 hbx
  generalize (W3.alloc (.cells #[.slice none 0 0, .int .i64 (l.filter (fitsB q)).length, .int .i64 (-1), .int .i64 (-1)] 32)) = W4 at hA4 hb4 hQ4 hR4 hrm4 hab ⊢
  have hgab : ∀ b, gg = some b → b ≠ W3.heap.size := fun b hb => by have := hgc b hb; omega
  have HGA := Lib.hid hgab
  clear hgab
  generalize W3.heap.size = ab at hA4 hq3 hr3 hab HGA ⊢
  have hgb : ∀ b, gg = some b → w.heap.size + 1 < b := fun b hb => by have := hgc b hb; have := blk_lt hA1; omega
  have HGB := Lib.hid hgb
  clear hgb hr0 hgc hrooms hb23 hb12 hQ3 hA3 hQ2 hQ1 hA1 hb1 hb2 hb3 hO
  have k2 : W4.cell? ⟨w.heap.size, 2, none⟩ = some (.int .i64 q.limit) := by rw [blk_cell hQ4]; rfl
  have k3 : W4.cell? ⟨w.heap.size, 3, none⟩ = some (.int .i64 q.since) := by rw [blk_cell hQ4]; rfl
  obtain ⟨n, hn⟩ : ∃ n, n = (l.filter (fitsB q)).length := ⟨_, rfl⟩
  rw [← hn] at hcap hA4 ⊢
  have HN := Lib.hid hn
  have HA4 := Lib.hid hA4
  have HB4 := Lib.hid hb4
  have HR4 := Lib.hid hR4
  have HRM := Lib.hid hrm4
  have a0 : W4.cell? ⟨ab, 0, none⟩ = some (.slice none 0 0) := by rw [blk_cell hA4]; rfl
  have a1 : W4.cell? ⟨ab, 1, none⟩ = some (.int .i64 n) := by rw [blk_cell hA4]; rfl
  have a2 : W4.cell? ⟨ab, 2, none⟩ = some (.int .i64 (-1)) := by rw [blk_cell hA4]; rfl
  have a3 : W4.cell? ⟨ab, 3, none⟩ = some (.int .i64 (-1)) := by rw [blk_cell hA4]; rfl
  have f0 : W4.frozen? ⟨ab, 0, none⟩ = false := blk_frozen hA4 0
  have f2 : W4.frozen? ⟨ab, 2, none⟩ = false := blk_frozen hA4 2
  have f3 : W4.frozen? ⟨ab, 3, none⟩ = false := blk_frozen hA4 3
  have r0 : W4.cell? ⟨w.heap.size + 1, 0, none⟩ = some (.slice none 0 0) := by rw [blk_cell hR4]; rfl
  have r1 : W4.cell? ⟨w.heap.size + 1, 1, none⟩ = some (.int .i64 0) := by rw [blk_cell hR4]; rfl
  have r2 : W4.cell? ⟨w.heap.size + 1, 2, none⟩ = some (.int .i64 0) := by rw [blk_cell hR4]; rfl
  have r3 : W4.cell? ⟨w.heap.size + 1, 3, none⟩ = some (.int .i64 0) := by rw [blk_cell hR4]; rfl
  have g0 : W4.frozen? ⟨w.heap.size + 1, 0, none⟩ = false := blk_frozen hR4 0
  have g1 : W4.frozen? ⟨w.heap.size + 1, 1, none⟩ = false := blk_frozen hR4 1
  have g2 : W4.frozen? ⟨w.heap.size + 1, 2, none⟩ = false := blk_frozen hR4 2
  have g3 : W4.frozen? ⟨w.heap.size + 1, 3, none⟩ = false := blk_frozen hR4 3
  have hne2 : w.heap.size + 1 ≠ ab := by omega
  have hne : w.heap.size ≠ ab := by omega
  clear hn hA4 hb4 hR4 hrm4 hQ4
  go_upto_region 9 with fail
  have hpg := rooms_page W4 gg l q cap (by rw [fitL]; exact HRM.out) h3 (by unfold fitL; rw [← HN.out]; exact hcap)
  unfold fitL at hpg
  rw [← HN.out] at hpg
  have hsp : (if cap = (min q.since (n : Int)).toNat then Option.map (fun g : Nat => (⟨g, 0, none⟩ : Addr)) gg else Option.map ((fun x : Addr => x.add ((min q.since (n : Int)).toNat * 10)) ∘ fun g : Nat => (⟨g, 0, none⟩ : Addr)) gg) = subP gg cap (min q.since (n : Int)) := rfl
  rw [hsp]
  have hP0 : ∀ b o, subP gg cap (min q.since (n : Int)) = some ⟨b, o, none⟩ → b ≠ ab ∧ b ≠ w.heap.size + 1 := fun b o h => by
    have h1 := subP_block _ _ _ _ _ h
    have := HGB.out b h1
    exact ⟨HGA.out b h1, by omega⟩
  have HP0 := Lib.hid hP0
  clear hP0
  have hnw : NewRooms w (subP gg cap (min q.since (n : Int))) (pageL q l).length (cap - (min q.since (n : Int)).toNat) := by
    refine ⟨?_, fun b o h => ?_, fun h => ?_, fun a h => subP_spot _ _ _ _ h⟩
    · unfold pageL restL
      simp only [List.length_take, List.length_drop]
      unfold fitL
      rw [← HN.out]
      omega
    · have := HGB.out b (subP_block _ _ _ _ _ h)
      omega
    · cases gg with
      | none => rw [hg0 rfl]; omega
      | some g => exact absurd h (subP_some _ _ _)
  have HNW := Lib.hid hnw
  clear hnw hg0
  generalize subP gg cap (min q.since (n : Int)) = P0 at hpg HP0 HNW ⊢
  obtain ⟨m, hm⟩ : ∃ m, m = n - (min q.since (n : Int)).toNat := ⟨_, rfl⟩
  rw [← hm]
  have hpl : (min q.limit (m : Int)).toNat = (pageL q l).length := by
    unfold pageL restL
    simp only [List.length_take, List.length_drop]
    unfold fitL
    rw [← HN.out]
    omega
  have hml : m = (restL q l).length := by
    unfold restL
    rw [List.length_drop]
    unfold fitL
    rw [← HN.out]
    omega
  rw [hpl]
  have HPG := Lib.hid hpg
  have HML := Lib.hid hml
  clear hpl hpg hml
  have hmn : m ≤ n - q.since.toNat := by rw [hm]; omega
  have hno : n ≤ 1000 := by rw [HN.out]; exact Nat.le_trans (List.length_filter_le _ _) hn
  clear hm
  generalize cap - (min q.since (n : Int)).toNat = cc at HNW ⊢
  have HNC := Lib.hid hcap
  by_cases hn1 : q.limit < m <;> by_cases hp1 : 0 < q.since
  · have hsum : wrap64 (q.since + q.limit) = q.since + q.limit := by unfold wrap64; omega
    go_wp2_with fail
    refine bodyPost_ret (v := .tuple #[.agg #[.slice P0 (pageL q l).length cc, .int .i64 n, .int .i64 (q.since + q.limit), .int .i64 (max 0 (q.since - q.limit))], .nilIface]) (by simp [results, Try.results8, go_sem, r0, r1, r2, r3, hne2]) rfl ⟨⟨P0, cc, ?_, HPG.out.off ((((((((OffB.refl W4 ab (w.heap.size + 1)).set ⟨ab, 0, none⟩ _ (.inl rfl)).set ⟨ab, 2, none⟩ _ (.inl rfl)).set ⟨ab, 3, none⟩ _ (.inl rfl)).set ⟨w.heap.size + 1, 0, none⟩ _ (.inr rfl)).set ⟨w.heap.size + 1, 1, none⟩ _ (.inr rfl)).set ⟨w.heap.size + 1, 2, none⟩ _ (.inr rfl)).set ⟨w.heap.size + 1, 3, none⟩ _ (.inr rfl)) HP0.out, HNW.out⟩, (((((((HB4.out.setCell (p := ⟨ab, 0, none⟩) (by show _ ≤ ab; omega) _).setCell (p := ⟨ab, 2, none⟩) (by show _ ≤ ab; omega) _).setCell (p := ⟨ab, 3, none⟩) (by show _ ≤ ab; omega) _).setCell (p := ⟨w.heap.size + 1, 0, none⟩) (by show _ ≤ w.heap.size + 1; omega) _).setCell (p := ⟨w.heap.size + 1, 1, none⟩) (by show _ ≤ w.heap.size + 1; omega) _).setCell (p := ⟨w.heap.size + 1, 2, none⟩) (by show _ ≤ w.heap.size + 1; omega) _).setCell (p := ⟨w.heap.size + 1, 3, none⟩) (by show _ ≤ w.heap.size + 1; omega) _)⟩
    have hnx : nextI q l = q.since + q.limit := by
      unfold nextI
      rw [← HML.out]
      rw [if_pos hn1]
    have hpv : prevI q = (max 0 (q.since - q.limit)) := by
      unfold prevI
      rw [if_pos hp1]
    rw [hnx, hpv, show ((fitL q l).length : Int) = n by unfold fitL; rw [← HN.out]]
  · have hsum : wrap64 (q.since + q.limit) = q.since + q.limit := by unfold wrap64; omega
    go_wp2_with fail
    refine bodyPost_ret (v := .tuple #[.agg #[.slice P0 (pageL q l).length cc, .int .i64 n, .int .i64 (q.since + q.limit), .int .i64 (-1)], .nilIface]) (by simp [results, Try.results8, go_sem, r0, r1, r2, r3, hne2]) rfl ⟨⟨P0, cc, ?_, HPG.out.off (((((((OffB.refl W4 ab (w.heap.size + 1)).set ⟨ab, 0, none⟩ _ (.inl rfl)).set ⟨ab, 2, none⟩ _ (.inl rfl)).set ⟨w.heap.size + 1, 0, none⟩ _ (.inr rfl)).set ⟨w.heap.size + 1, 1, none⟩ _ (.inr rfl)).set ⟨w.heap.size + 1, 2, none⟩ _ (.inr rfl)).set ⟨w.heap.size + 1, 3, none⟩ _ (.inr rfl)) HP0.out, HNW.out⟩, ((((((HB4.out.setCell (p := ⟨ab, 0, none⟩) (by show _ ≤ ab; omega) _).setCell (p := ⟨ab, 2, none⟩) (by show _ ≤ ab; omega) _).setCell (p := ⟨w.heap.size + 1, 0, none⟩) (by show _ ≤ w.heap.size + 1; omega) _).setCell (p := ⟨w.heap.size + 1, 1, none⟩) (by show _ ≤ w.heap.size + 1; omega) _).setCell (p := ⟨w.heap.size + 1, 2, none⟩) (by show _ ≤ w.heap.size + 1; omega) _).setCell (p := ⟨w.heap.size + 1, 3, none⟩) (by show _ ≤ w.heap.size + 1; omega) _)⟩
    have hnx : nextI q l = q.since + q.limit := by
      unfold nextI
      rw [← HML.out]
      rw [if_pos hn1]
    have hpv : prevI q = (-1) := by
      unfold prevI
      rw [if_neg (Int.not_lt.2 hp1)]
    rw [hnx, hpv, show ((fitL q l).length : Int) = n by unfold fitL; rw [← HN.out]]
  · go_wp2_with fail
    refine bodyPost_ret (v := .tuple #[.agg #[.slice P0 (pageL q l).length cc, .int .i64 n, .int .i64 (-1), .int .i64 (max 0 (q.since - q.limit))], .nilIface]) (by simp [results, Try.results8, go_sem, r0, r1, r2, r3, hne2]) rfl ⟨⟨P0, cc, ?_, HPG.out.off (((((((OffB.refl W4 ab (w.heap.size + 1)).set ⟨ab, 0, none⟩ _ (.inl rfl)).set ⟨ab, 3, none⟩ _ (.inl rfl)).set ⟨w.heap.size + 1, 0, none⟩ _ (.inr rfl)).set ⟨w.heap.size + 1, 1, none⟩ _ (.inr rfl)).set ⟨w.heap.size + 1, 2, none⟩ _ (.inr rfl)).set ⟨w.heap.size + 1, 3, none⟩ _ (.inr rfl)) HP0.out, HNW.out⟩, ((((((HB4.out.setCell (p := ⟨ab, 0, none⟩) (by show _ ≤ ab; omega) _).setCell (p := ⟨ab, 3, none⟩) (by show _ ≤ ab; omega) _).setCell (p := ⟨w.heap.size + 1, 0, none⟩) (by show _ ≤ w.heap.size + 1; omega) _).setCell (p := ⟨w.heap.size + 1, 1, none⟩) (by show _ ≤ w.heap.size + 1; omega) _).setCell (p := ⟨w.heap.size + 1, 2, none⟩) (by show _ ≤ w.heap.size + 1; omega) _).setCell (p := ⟨w.heap.size + 1, 3, none⟩) (by show _ ≤ w.heap.size + 1; omega) _)⟩
    have hnx : nextI q l = (-1) := by
      unfold nextI
      rw [← HML.out]
      rw [if_neg (Int.not_lt.2 hn1)]
    have hpv : prevI q = (max 0 (q.since - q.limit)) := by
      unfold prevI
      rw [if_pos hp1]
    rw [hnx, hpv, show ((fitL q l).length : Int) = n by unfold fitL; rw [← HN.out]]
  · go_wp2_with fail
    refine bodyPost_ret (v := .tuple #[.agg #[.slice P0 (pageL q l).length cc, .int .i64 n, .int .i64 (-1), .int .i64 (-1)], .nilIface]) (by simp [results, Try.results8, go_sem, r0, r1, r2, r3, hne2]) rfl ⟨⟨P0, cc, ?_, HPG.out.off ((((((OffB.refl W4 ab (w.heap.size + 1)).set ⟨ab, 0, none⟩ _ (.inl rfl)).set ⟨w.heap.size + 1, 0, none⟩ _ (.inr rfl)).set ⟨w.heap.size + 1, 1, none⟩ _ (.inr rfl)).set ⟨w.heap.size + 1, 2, none⟩ _ (.inr rfl)).set ⟨w.heap.size + 1, 3, none⟩ _ (.inr rfl)) HP0.out, HNW.out⟩, (((((HB4.out.setCell (p := ⟨ab, 0, none⟩) (by show _ ≤ ab; omega) _).setCell (p := ⟨w.heap.size + 1, 0, none⟩) (by show _ ≤ w.heap.size + 1; omega) _).setCell (p := ⟨w.heap.size + 1, 1, none⟩) (by show _ ≤ w.heap.size + 1; omega) _).setCell (p := ⟨w.heap.size + 1, 2, none⟩) (by show _ ≤ w.heap.size + 1; omega) _).setCell (p := ⟨w.heap.size + 1, 3, none⟩) (by show _ ≤ w.heap.size + 1; omega) _)⟩
    have hnx : nextI q l = (-1) := by
      unfold nextI
      rw [← HML.out]
      rw [if_neg (Int.not_lt.2 hn1)]
    have hpv : prevI q = (-1) := by
      unfold prevI
      rw [if_neg (Int.not_lt.2 hp1)]
    rw [hnx, hpv, show ((fitL q l).length : Int) = n by unfold fitL; rw [← HN.out]]

theorem find_any (v : Value) (l : List SV) (q : QV) (p : Option Addr) (c : Nat) (w : World) (hI : InAt w v l) (hn : l.length ≤ 1000) (hx : ∀ x ∈ l, SmallS x) (hM : MaxAt w) (hT : TypesAt w p q.types) (hl : q.types.length ≤ 1000) (hq : q.term.size ≤ maxLen)
    (hp : ∀ b, p = some ⟨b, 0, none⟩ → b < w.heap.size) (h1 : 1 ≤ q.limit) (h2 : q.limit ≤ 50) (h3 : 0 ≤ q.since) (h4 : q.since < 9223372036854775807) :
    Calls Try.prog 8 #[v, .agg (q.cells p c).toArray] w (Found q l w) :=
  (find_all v l q p c w hI.toC hn hx hM hT hl hq h1 h2 h3 h4).mono fun _ _ h => h.found
end Go.Proofs.Ytmpbofmhjjgccaa
