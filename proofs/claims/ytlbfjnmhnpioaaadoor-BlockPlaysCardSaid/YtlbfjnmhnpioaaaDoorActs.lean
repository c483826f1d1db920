/-
  A list of acts, as it lies in memory.
-/
import Derived.Test.YtlbfjnmhnpioaaaDoorDiskFacts
import Derived.Deep.Slices
import Derived.Deep.Fields
import Derived.ChangeSame
namespace Go.Proofs.YtlbfjnmhnpioaaaDoor
open Go.RowKit
set_option linter.unusedVariables false

/-- An act: its kind, its number, its bytes. -/
structure ActV where
  k : Int
  n : Int
  b : List UInt8

/-- An act at a place. -/
structure ActAt (w : World) (A : Addr) (x : ActV) : Prop where
  k : w.cell? A = some (.int .u8 x.k)
  n : w.cell? ⟨A.block, A.off + 1, none⟩ = some (.int .i64 x.n)
  b : ∃ p c, w.cell? ⟨A.block, A.off + 2, none⟩ = some (.slice p x.b.length c) ∧ BytesAt w p x.b
theorem ActAt.below {w w' : World} {A : Addr} {x : ActV} (h : ActAt w A x) (hb : Below w.heap.size w w') : ActAt w' A x where
  k := (hb.cell (World.block_lt_of_cell? w _ h.k)).trans h.k
  n := (hb.cell (World.block_lt_of_cell? w _ h.n)).trans h.n
  b := by
    obtain ⟨p, c, h1, h2⟩ := h.b
    exact ⟨p, c, (hb.cell (World.block_lt_of_cell? w _ h1)).trans h1, h2.below hb⟩

def ActsAt (w : World) (p : Option Addr) (l : List ActV) : Prop :=
  ∀ i x, l[i]? = some x → ∃ a, p = some a ∧ ActAt w (a.add (i * 3)) x

def fewB (l : List ActV) : Bool := l.all (fun a => decide (a.b.length ≤ 200)) && decide (l.length ≤ 40)

set_option maxRecDepth 100000 in
set_option maxHeartbeats 2000000 in
theorem few_any (p : Option Addr) (l : List ActV) (c : Nat) (w : World) (hl : l.length ≤ maxLen) (h : ActsAt w p l) :
    Calls Tryd.prog 5 #[.slice p l.length c] w fun e w' => e = .returned (.bool (fewB l)) ∧ Below w.heap.size w w' := by
  have HA := Lib.hid h
  have hl2 : l.length ≤ 9223372036854775807 := by unfold maxLen at hl; omega
  clear h hl
  go_enter Tryd.func5, Tryd.ntmps5
  go_wp2_with fail
  go_loopw [7] (fun i wr => ∃ j : Nat, j ≤ l.length ∧ i = .int .i64 j ∧ Below w.heap.size w wr ∧ Hid ((l.take j).all (fun a => decide (a.b.length ≤ 200)) = true)) (fun i _ => l.length - (intOf i).toNat)
  case atStart => exact ⟨0, Nat.zero_le _, rfl, Below.refl _ _, by show _ = _; simp⟩
  case round =>
    obtain ⟨j, hj, rfl, hb, hA⟩ := hrel
    by_cases hlt : j < l.length
    · obtain ⟨x, hx⟩ : ∃ x, l[j]? = some x := ⟨_, List.getElem?_eq_getElem hlt⟩
      obtain ⟨a, rfl, ha⟩ := HA.out j x hx
      have ha' := ha.below hb
      have c0 := ha'.k
      have c1 := ha'.n
      obtain ⟨q, cq, c2, _⟩ := ha'.b
      have hxl : (l.take (j + 1)).all (fun a => decide (a.b.length ≤ 200)) = decide (x.b.length ≤ 200) := by
        rw [List.take_add_one, hx, List.all_append, hA.out]
        simp
      have HX := Lib.hid hxl
      have HXX := Lib.hid hx
      have hbw : Below w.heap.size w (wr.alloc (.cells #[.int .u8 x.k, .int .i64 x.n, .slice q x.b.length cq] 41)) := hb.alloc hb.size _
      clear hxl hx ha ha' hA
      by_cases hb2 : 200 < x.b.length
      · go_wp2_with fail
        go_ret
        refine ⟨?_, hbw⟩
        refine ret_bool ?_
        have : fewB l = false := by
          unfold fewB
          rw [Bool.and_eq_false_iff]
          left
          rw [List.all_eq_false]
          exact ⟨x, List.mem_of_getElem? HXX.out, by simpa using hb2⟩
        rw [this]
      · go_wp2_with fail
        go_roundw
        case rel => exact ⟨j + 1, by omega, by go_num, hbw, by rw [Hid, HX.out]; simpa using hb2⟩
        case measure => simp [intOf]; omega
    · have hjl : j = l.length := by omega
      subst hjl
      rw [List.take_length] at hA
      by_cases h40 : l.length ≤ 40
      · go_wp2_with fail
        go_ret
        refine ⟨ret_bool ?_, hb⟩
        rw [fewB, hA.out, decide_eq_true h40]; simp; omega
      · go_wp2_with fail
        go_ret
        refine ⟨ret_bool ?_, hb⟩
        rw [fewB, hA.out, decide_eq_false h40]; simp; omega

section
open Go.ChangeShapes Go.WideShapes Go.Deep
variable {H : Type} {enc : TypeId × Value → H} {w : World} {base : Nat} {spare : Nat → Bool} {held : Bool}
theorem bytes_of_trod {fuel : Nat} {cs : List Value} {x : DataW H × List MemPlace} (h : DataW.trod enc Tryd.prog w base spare held fuel 39 cs = some x) :
    ∃ (p : Option Addr) (bs : List UInt8) (c : Nat), cs = [.slice p bs.length c] ∧ bs.length ≤ c ∧ c ≤ maxLen ∧ BytesAt w p bs := by
  rcases open_slice1 Tryd.underlying39 (by kernel_rfl) h with ⟨rfl, _⟩ | ⟨a, len, cap, m, n, V, D, Pl, rfl, hb, hl, hm, hmm, _, hx⟩
  · exact ⟨none, [], 0, rfl, Nat.le_refl _, Nat.zero_le _, .inl rfl⟩
  · have hlm : len ≤ m := by rw [hmm]; split <;> omega
    have hV : ∀ i, i < len → ∃ u : UInt8, V i = .int .u8 u.toNat := by
      intro i hi
      obtain ⟨_, h2⟩ := hx i (by omega)
      obtain ⟨z, h3, _, h4⟩ := DataW.trod_int Tryd.underlying5 h2
      injection h3 with h3 _
      have h5 : 0 ≤ z ∧ z ≤ 255 := by simpa [Lit.wf, IntKind.min, IntKind.max, IntKind.bits, IntKind.signed] using h4
      refine ⟨UInt8.ofNat z.toNat, ?_⟩
      rw [h3, UInt8.toNat_ofNat']
      congr 1
      omega
    obtain ⟨f, hf⟩ := choose_lt hV
    refine ⟨some a, (List.range len).map f, cap, by simp, by simpa using hl, hm, .inr ⟨a, rfl, fun j v hj => ?_⟩⟩
    have hjl : j < len := by
      have := (List.getElem?_eq_some_iff.1 hj).1
      simpa [bytesV] using this
    rw [(hx j (by omega)).1, hf j hjl]
    simp [bytesV, hjl] at hj
    rw [← hj]

theorem list3 {α : Type} : ∀ {l : List α}, l.length = 3 → ∃ a b c, l = [a, b, c]
  | [a, b, c], _ => ⟨a, b, c, rfl⟩

theorem acts_of_trod {fuel : Nat} {cs : List Value} {x : DataW H × List MemPlace} (h : DataW.trod enc Tryd.prog w base spare held fuel 22 cs = some x) :
    ∃ (p : Option Addr) (l : List ActV) (c : Nat), cs = [.slice p l.length c] ∧ l.length ≤ maxLen ∧ ActsAt w p l ∧ ∀ x ∈ l, (0 ≤ x.k ∧ x.k ≤ 255) ∧ (Lit.int .i64 x.n).wf = true ∧ x.b.length ≤ maxLen := by
  rcases open_slice Tryd.underlying22 h with ⟨rfl, _⟩ | ⟨a, len, cap, m, n, D, Pl, rfl, hb, hl, hm, hmm, _, hx⟩
  · exact ⟨none, [], 0, rfl, Nat.zero_le _, ⟨fun i x hi => by simp at hi, fun x hx => by simp at hx⟩⟩
  · have hlm : len ≤ m := by rw [hmm]; split <;> omega
    have hV : ∀ i, i < len → ∃ v : ActV, ActAt w (a.add (i * 3)) v ∧ (0 ≤ v.k ∧ v.k ≤ 255) ∧ (Lit.int .i64 v.n).wf = true ∧ v.b.length ≤ maxLen := by
      intro i hi
      obtain ⟨cs', h1, h2⟩ := hx i (by omega)
      have hc3 : Program.cellsOf Tryd.prog 41 = 3 := by kernel_rfl
      rw [hc3] at h1
      obtain ⟨_, hlen, hat⟩ := World.cells?_some h1
      obtain ⟨xs, n', _, _, _, hxl, hf⟩ := DataW.trod_struct Tryd.underlying41 h2
      have g0 := hf 0 _ rfl
      have g1 := hf 1 _ rfl
      have g2 := hf 2 _ rfl
      have hx3 : xs.length = 3 := hxl
      clear hf hxl h2 h1
      obtain ⟨y0, y1, y2, rfl⟩ := list3 hx3
      obtain ⟨x0, x1, x2, rfl⟩ := list3 hlen
      change DataW.trod enc Tryd.prog w base spare held n' 5 (([x0, x1, x2].drop 0).take (Program.cellsOf Tryd.prog 5)) = some y0 at g0
      change DataW.trod enc Tryd.prog w base spare held n' 3 (([x0, x1, x2].drop 1).take (Program.cellsOf Tryd.prog 3)) = some y1 at g1
      change DataW.trod enc Tryd.prog w base spare held n' 39 (([x0, x1, x2].drop 2).take (Program.cellsOf Tryd.prog 39)) = some y2 at g2
      · skip
        have e0 : Program.cellsOf Tryd.prog 5 = 1 := by kernel_rfl
        have e1 : Program.cellsOf Tryd.prog 3 = 1 := by kernel_rfl
        have e2 : Program.cellsOf Tryd.prog 39 = 1 := by kernel_rfl
        simp only [e0, e1, e2, List.drop_succ_cons, List.drop_zero, List.take_succ_cons, List.take_zero] at g0 g1 g2
        obtain ⟨z0, f0, _, w0⟩ := DataW.trod_int Tryd.underlying5 g0
        obtain ⟨z1, f1, _, w1⟩ := DataW.trod_int Tryd.underlying3 g1
        obtain ⟨p, bs, c, f2, hbc, hcm, hB⟩ := bytes_of_trod g2
        injection f0 with f0 _
        injection f1 with f1 _
        injection f2 with f2 _
        subst f0 f1 f2
        refine ⟨⟨z0, z1, bs⟩, ⟨?_, ?_, ⟨p, c, ?_, hB⟩⟩, by simpa [Lit.wf, IntKind.min, IntKind.max, IntKind.bits, IntKind.signed] using w0, w1, by simp only; omega⟩
        · exact hat 0 (by omega)
        · exact hat 1 (by omega)
        · exact hat 2 (by omega)
    haveI : Inhabited ActV := ⟨⟨0, 0, []⟩⟩
    obtain ⟨f, hf⟩ := choose_lt hV
    refine ⟨some a, (List.range len).map f, cap, by simp, by simp; omega, fun i x hi => ?_, fun x hx => ?_⟩
    · have hil : i < len := by
        have := (List.getElem?_eq_some_iff.1 hi).1
        simpa using this
      simp [hil] at hi
      exact ⟨a, rfl, hi ▸ (hf i hil).1⟩
    · obtain ⟨i, hi, rfl⟩ := List.mem_map.1 hx
      exact (hf i (List.mem_range.1 hi)).2
end

end Go.Proofs.YtlbfjnmhnpioaaaDoor
