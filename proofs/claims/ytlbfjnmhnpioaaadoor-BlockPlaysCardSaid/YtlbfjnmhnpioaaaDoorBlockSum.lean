/-
  A disk's state, what a write makes of it, and the contract of Write in one piece.
-/
import Derived.Test.YtlbfjnmhnpioaaaDoorBlockWrite
namespace Go.Proofs.YtlbfjnmhnpioaaaDoor
open Go.RowKit
set_option linter.unusedVariables false

/-- Only blocks of S, and new ones, have turned. -/
structure Only (S : Nat → Prop) (w w' : World) : Prop where
  os : w'.os = w.os
  tape : w'.tape = w.tape
  output : w'.output = w.output
  size : w.heap.size ≤ w'.heap.size
  block : ∀ k, k < w.heap.size → ¬ S k → w'.heap[k]? = w.heap[k]?

theorem Only.refl (S : Nat → Prop) (w : World) : Only S w w := ⟨rfl, rfl, rfl, Nat.le_refl _, fun _ _ _ => rfl⟩
theorem Only.of_below {S : Nat → Prop} {w w' : World} (h : Below w.heap.size w w') : Only S w w' := ⟨h.os, h.tape, h.output, h.size, fun k hk _ => h.block k hk⟩
theorem Only.trans {S : Nat → Prop} {a b c : World} (h : Only S a b) (k : Only S b c) : Only S a c :=
  ⟨k.os.trans h.os, k.tape.trans h.tape, k.output.trans h.output, Nat.le_trans h.size k.size, fun i hi hs => (k.block i (Nat.lt_of_lt_of_le hi h.size) hs).trans (h.block i hi hs)⟩
theorem Only.mono {S T : Nat → Prop} {w w' : World} (h : Only S w w') (hs : ∀ k, k < w.heap.size → S k → T k) : Only T w w' := ⟨h.os, h.tape, h.output, h.size, fun k hk ht => h.block k hk (fun s => ht (hs k hk s))⟩
theorem Only.setCell {S : Nat → Prop} {a w : World} (h : Only S a w) {p : Addr} (hp : a.heap.size ≤ p.block ∨ S p.block) (u : Value) : Only S a (w.setCell p u) :=
  ⟨h.os, h.tape, h.output, by simpa [World.setCell] using h.size, fun k hk hs => (Below.heap_setCell w p u k (by rintro rfl; rcases hp with hp | hp <;> first | omega | exact hs hp)).trans (h.block k hk hs)⟩
theorem Only.setRow {S : Nat → Prop} {a w : World} (h : Only S a w) {g : Nat} (hp : a.heap.size ≤ g ∨ S g) (cs : Array Value) : Only S a (w.setRow g cs) :=
  ⟨h.os, h.tape, h.output, by simpa using h.size, fun k hk hs => (setRow_other w g k cs (by rintro rfl; rcases hp with hp | hp <;> first | omega | exact hs hp)).trans (h.block k hk hs)⟩
theorem Only.drew {S : Nat → Prop} {a w : World} (h : Only S a w) : Only S a w.drew := ⟨h.os, h.tape, h.output, h.size, h.block⟩
theorem Only.drewN {S : Nat → Prop} {a w : World} (h : Only S a w) (q : Nat) : Only S a (w.drewN q) := ⟨h.os, h.tape, h.output, h.size, h.block⟩
theorem Only.below {S : Nat → Prop} {a w : World} (h : Only S a w) {B : Nat} (hB : B ≤ a.heap.size) (hs : ∀ k, k < a.heap.size → S k → B ≤ k) : Below B a w :=
  ⟨h.os, h.tape, h.output, h.size, fun k hk => h.block k (by omega) (fun s => by have := hs k (by omega) s; omega)⟩

/-- A disk's state: its bytes, its fuse, its cut, its steps. -/
structure St where
  bs : List UInt8
  f : Option Int
  c : Option (Nat × List UInt8)
  st : Int

def Disk (w : World) (g bb : Nat) (fu : Value) (n : Nat) (s : St) : Prop := ∃ cu cap sp, DiskAt w g bb fu cu n cap sp s.bs s.f s.c s.st

/-- The blocks of memory that a disk's methods may turn. -/
def footD (g bb : Nat) (fu : Value) (k : Nat) : Prop := k = g ∨ k = bb ∨ fu = .pointer (some ⟨k, 0, none⟩)

def errV (c : Int) : Value := if c = 0 then .nilIface else .iface 54 (.int .i64 c)

def wrBad (n : Nat) (s : St) (i : Int) (b : List UInt8) : Prop := ¬ (0 ≤ i ∧ i < n) ∨ 64 < b.length ∨ s.c.isSome = true
instance (n : Nat) (s : St) (i : Int) (b : List UInt8) : Decidable (wrBad n s i b) := by unfold wrBad; infer_instance

/-- The code of the error. -/
def wrC (n : Nat) (s : St) (i : Int) (b : List UInt8) : Int :=
  if ¬ (0 ≤ i ∧ i < n) then 8 else if 64 < b.length then 2 else if s.c.isSome = true then 19 else if s.f = some 0 then 19 else 0
/-- The state behind a write. -/
def wrS (n : Nat) (s : St) (i : Int) (b : List UInt8) : St :=
  if wrBad n s i b then s else
  if s.f = some 0 then { s with c := some (i.toNat, fill64 b) } else
  { bs := layAt s.bs i.toNat (fill64 b), f := s.f.map (· - 1), c := none, st := s.st + 1 }

/-- What is known of a state's numbers. -/
def StOk (s : St) : Prop := 0 ≤ s.st ∧ s.st < 1000000 ∧ ∀ k, s.f = some k → 0 ≤ k ∧ k < 9223372036854775808

theorem types_ne {w : World} {a b : Nat} {ca cb : Array Value} {ta tb : TypeId} (ha : w.heap[a]? = some (.cells ca ta (0, 0))) (hb : w.heap[b]? = some (.cells cb tb (0, 0))) (h : ta ≠ tb) : a ≠ b := by
  rintro rfl
  rw [ha] at hb
  injection hb with hb
  injection hb with _ h2
  exact h h2

theorem write_any {w : World} {g bb : Nat} {fu : Value} {n : Nat} {s : St} (hd : Disk w g bb fu n s) (ho : StOk s) (hn : n ≤ 4096) (i : Int) (A : Option Addr) (b : List UInt8) (c : Nat) (hr : b.length ≤ 64 → BytesAt w A b) :
    Calls Tryd.prog 9 #[.pointer (some ⟨g, 0, none⟩), .int .i64 i, .slice A b.length c] w fun e w' =>
      e = .returned (errV (wrC n s i b)) ∧ Disk w' g bb fu n (wrS n s i b) ∧ Only (footD g bb fu) w w' := by
  obtain ⟨cu, cap, sp, hd⟩ := hd
  obtain ⟨ho1, ho2, ho3⟩ := ho
  by_cases h1 : 0 ≤ i ∧ i < n
  · by_cases h2 : 64 < b.length
    · refine (write_long g bb n cap i A b.length c w hd.c0 h1 h2).mono fun e w' ⟨he, hw⟩ => ?_
      subst hw
      have e1 : wrC n s i b = 2 := by simp [wrC, h1, h2]
      have e2 : wrS n s i b = s := by rw [wrS, if_pos (.inr (.inl h2))]
      rw [e1, e2]
      exact ⟨he, ⟨cu, cap, sp, hd⟩, Only.refl _ _⟩
    · obtain ⟨j, rfl⟩ := Int.eq_ofNat_of_zero_le h1.1
      have hj : j < n := by omega
      cases hcc : s.c with
      | some cc =>
        rw [hcc] at hd
        obtain ⟨bc, rfl, hl, hh⟩ := hd.hc
        refine (write_dead g bb n cap _ _ A b.length c w hd.c0 hd.c2 h1 h2).mono fun e w' ⟨he, hw⟩ => ?_
        subst hw
        have e1 : wrC n s j b = 19 := by simp [wrC, h1, h2, hcc]
        have e2 : wrS n s j b = s := by rw [wrS, if_pos (.inr (.inr (by rw [hcc]; rfl)))]
        rw [e1, e2]
        exact ⟨he, ⟨_, cap, sp, hcc ▸ hd⟩, Only.refl _ _⟩
      | none =>
        have hbad : ¬ wrBad n s j b := by unfold wrBad; rw [hcc]; simp; omega
        rw [hcc] at hd
        obtain rfl : cu = .pointer none := hd.hc
        have hR := hr (by omega)
        have hgl := blk_lt hd.hd
        have hbl := blk_lt hd.hb
        have hgb := types_ne hd.hd hd.hb (by decide)
        cases hf : s.f with
        | none =>
          rw [hf] at hd
          obtain rfl : fu = .pointer none := hd.hf
          refine (write_free g bb n cap sp s.bs s.st j A b c w hd hj hn (by omega) hR ho1 ho2).mono fun e w' ⟨he, w1, hx, hw⟩ => ?_
          have e1 : wrC n s j b = 0 := by simp [wrC, h1, h2, hcc, hf]
          have e2 : wrS n s j b = { bs := layAt s.bs j (fill64 b), f := none, c := none, st := s.st + 1 } := by
            rw [wrS, if_neg hbad, hf, if_neg (by simp)]; rfl
          have hd1 := hd.below hx.below
          rw [e1, e2]
          refine ⟨he, ⟨.pointer none, cap, sp, ?_, ?_, ?_, rfl, rfl⟩, ?_⟩
          · rw [hw, setRow_other _ _ _ _ hgb]
            exact (blk_set hd1.hd 3 _).trans rfl
          · rw [hw]
            exact setRow_heap _ _ _ _ _ _ ((Below.heap_setCell w1 ⟨g, 3, none⟩ _ _ (by simpa using hgb.symm)).trans hd1.hb)
          · exact len_layAt _ _ _ _ hd.hl hj (len_fill64 b (by omega))
          · rw [hw]
            exact (((Only.of_below hx.below).setCell (.inr (.inl rfl)) _).drew).setRow (.inr (.inr (.inl rfl))) _
        | some k =>
          rw [hf] at hd
          obtain ⟨bf, rfl, hbf⟩ := hd.hf
          have hk := ho3 k hf
          have hgf := types_ne hd.hd hbf (by decide)
          have hbbf := types_ne hd.hb hbf (by decide)
          by_cases hk0 : k = 0
          · subst hk0
            refine (write_cut g bb bf n cap sp s.bs s.st j A b c w hd hj hn (by omega) hR).mono fun e w' ⟨he, w1, hx, hw⟩ => ?_
            have e1 : wrC n s j b = 19 := by simp [wrC, h1, h2, hcc, hf]
            have e2 : wrS n s j b = { s with c := some (j, fill64 b) } := by
              rw [wrS, if_neg hbad, if_pos hf]; rfl
            have hd1 := hd.below hx.below
            have hbf1 : w1.heap[bf]? = some (.cells #[.int .i64 0] 3 (0, 0)) := (hx.below.block bf (blk_lt hbf)).trans hbf
            rw [e1, e2]
            refine ⟨he, ⟨.pointer (some ⟨w.heap.size, 0, none⟩), cap, sp, ?_, ?_, hd.hl, ?_, ?_⟩, ?_⟩
            · rw [hw]
              exact (blk_set hd1.hd 2 _).trans rfl
            · rw [hw]
              exact (Below.heap_setCell w1 ⟨g, 2, none⟩ _ _ (by simpa using hgb.symm)).trans hd1.hb
            · rw [hw, hf]
              exact ⟨bf, rfl, (Below.heap_setCell w1 ⟨g, 2, none⟩ _ _ (by simpa using hgf.symm)).trans hbf1⟩
            · rw [hw]
              exact ⟨w.heap.size, rfl, len_fill64 b (by omega), (Below.heap_setCell w1 ⟨g, 2, none⟩ _ _ (by show w.heap.size ≠ g; omega)).trans hx.box⟩
            · rw [hw]
              exact (Only.of_below hx.below).setCell (.inr (.inl rfl)) _
          · refine (write_fused g bb bf n cap sp s.bs s.st k j A b c w hd (by omega) hk.2 hj hn (by omega) hR ho1 ho2).mono fun e w' ⟨he, w1, hx, hw⟩ => ?_
            have e1 : wrC n s j b = 0 := by simp [wrC, h1, h2, hcc, hf, hk0]
            have e2 : wrS n s j b = { bs := layAt s.bs j (fill64 b), f := some (k - 1), c := none, st := s.st + 1 } := by
              rw [wrS, if_neg hbad, hf, if_neg (by simpa using hk0)]; rfl
            have hd1 := hd.below hx.below
            have hbf1 : w1.heap[bf]? = some (.cells #[.int .i64 k] 3 (0, 0)) := (hx.below.block bf (blk_lt hbf)).trans hbf
            rw [e1, e2]
            refine ⟨he, ⟨.pointer none, cap, sp, ?_, ?_, ?_, ?_, rfl⟩, ?_⟩
            · rw [hw, setRow_other _ _ _ _ hgb]
              exact (blk_set ((Below.heap_setCell w1 ⟨bf, 0, none⟩ _ _ (by simpa using hgf)).trans hd1.hd) 3 _).trans rfl
            · rw [hw]
              exact setRow_heap _ _ _ _ _ _ ((Below.heap_setCell _ ⟨g, 3, none⟩ _ _ (by simpa using hgb.symm)).trans ((Below.heap_setCell w1 ⟨bf, 0, none⟩ _ _ (by simpa using hbbf)).trans hd1.hb))
            · exact len_layAt _ _ _ _ hd.hl hj (len_fill64 b (by omega))
            · rw [hw]
              refine ⟨bf, rfl, ?_⟩
              rw [setRow_other _ _ _ _ hbbf.symm]
              exact (Below.heap_setCell _ ⟨g, 3, none⟩ _ _ (by simpa using hgf.symm)).trans ((blk_set hbf1 0 _).trans rfl)
            · rw [hw]
              exact ((((Only.of_below hx.below).setCell (.inr (.inr (.inr rfl))) _).setCell (.inr (.inl rfl)) _).drew).setRow (.inr (.inr (.inl rfl))) _
  · refine (write_range g bb n cap i _ w hd.c0 h1).mono fun e w' ⟨he, hw⟩ => ?_
    subst hw
    have e1 : wrC n s i b = 8 := by simp [wrC, h1]
    have e2 : wrS n s i b = s := by rw [wrS, if_pos (.inl h1)]
    rw [e1, e2]
    exact ⟨he, ⟨cu, cap, sp, hd⟩, Only.refl _ _⟩

end Go.Proofs.YtlbfjnmhnpioaaaDoor
