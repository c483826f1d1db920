/-
  Many acts on a disk: what stays; a block behind a write; append of noughts.
-/
import Derived.Test.YtlbfjnmhnpioaaaDoorActs
import Derived.Lib.AppendZerosOnto
namespace Go.Proofs.YtlbfjnmhnpioaaaDoor
open Go.RowKit
set_option linter.unusedVariables false
set_option linter.unusedSimpArgs false

/-- What is known behind m writes. -/
structure Good (m : Nat) (s : St) : Prop where
  st0 : 0 ≤ s.st
  st : s.st ≤ m
  f : ∀ k, s.f = some k → 0 ≤ k ∧ k < 256
  c : ∀ k x, s.c = some (k, x) → k < 8

theorem Good.ok {m : Nat} {s : St} (h : Good m s) (hm : m < 1000000) : StOk s :=
  ⟨h.st0, by have := h.st; omega, fun k hk => by have := h.f k hk; omega⟩

theorem Good.write {m : Nat} {s : St} (h : Good m s) (i : Int) (b : List UInt8) : Good (m + 1) (wrS 8 s i b) := by
  unfold wrS
  split
  · exact ⟨h.st0, by have := h.st; omega, h.f, h.c⟩
  · rename_i hb
    have hi : 0 ≤ i ∧ i < 8 := by
      unfold wrBad at hb
      omega
    split
    · refine ⟨h.st0, by have := h.st; show s.st ≤ _; omega, h.f, fun k x hk => ?_⟩
      injection hk with hk
      injection hk with hk _
      omega
    · rename_i h0
      refine ⟨by have := h.st0; show 0 ≤ s.st + 1; omega, by have := h.st; show s.st + 1 ≤ _; omega, fun k hk => ?_, fun k x hk => by cases hk⟩
      cases hf : s.f with
      | none => rw [hf] at hk; cases hk
      | some q =>
        rw [hf] at hk
        injection hk with hk
        simp only at hk
        have := h.f q hf
        have hq : q ≠ 0 := fun e => h0 (by rw [hf, e])
        omega

theorem good_zero (n : Nat) : Good 0 (zeroS n) := ⟨Int.le_refl _, Int.le_refl _, fun k hk => (by cases hk), fun k x hk => (by cases hk)⟩
theorem good_armed (n : Nat) (F : Nat) (hF : F < 256) : Good 0 (armS (zeroS n) F) := by
  rw [arm_zeroS]
  exact ⟨Int.le_refl _, Int.le_refl _, fun k hk => (by injection hk with hk; omega), fun k x hk => (by cases hk)⟩

def actsS (s : St) (l : List ActV) : St := l.foldl (fun s a => wrS 8 s a.n a.b) s
theorem actsS_snoc (s : St) (l : List ActV) (j : Nat) (x : ActV) (h : l[j]? = some x) : actsS s (l.take (j + 1)) = wrS 8 (actsS s (l.take j)) x.n x.b := by
  rw [List.take_add_one, h]
  simp [actsS]
theorem good_acts {m : Nat} : ∀ (l : List ActV) {s : St}, Good m s → Good (m + l.length) (actsS s l)
  | [], _, h => h
  | a :: l, s, h => by
    have := good_acts (m := m + 1) l (h.write a.n a.b)
    rw [List.length_cons, show m + (l.length + 1) = m + 1 + l.length by omega]
    exact this

/-- No fuse, no cut. -/
def Calm (s : St) : Prop := s.f = none ∧ s.c = none
theorem Calm.write {s : St} (h : Calm s) (n : Nat) (i : Int) (b : List UInt8) : Calm (wrS n s i b) := by
  unfold wrS
  split
  · exact h
  · rw [if_neg (by rw [h.1]; simp)]
    exact ⟨by show s.f.map _ = none; rw [h.1]; rfl, rfl⟩
theorem calm_acts : ∀ (l : List ActV) {s : St}, Calm s → Calm (actsS s l)
  | [], _, h => h
  | a :: l, s, h => calm_acts l (h.write 8 a.n a.b)
theorem Calm.code {s : St} (h : Calm s) (n : Nat) (i : Nat) (hi : i < n) (b : List UInt8) (hb : b.length ≤ 64) : wrC n s i b = 0 := by
  rw [wrC, if_neg (by omega), if_neg (by omega), if_neg (by rw [h.2]; simp), if_neg (by rw [h.1]; simp)]
theorem Calm.bs {s : St} (h : Calm s) (n : Nat) (i : Nat) (hi : i < n) (b : List UInt8) (hb : b.length ≤ 64) : (wrS n s i b).bs = layAt s.bs i (fill64 b) := by
  rw [wrS, if_neg (by unfold wrBad; rw [h.2]; simp; omega), if_neg (by rw [h.1]; simp)]
  rfl

/-- A block behind a write. -/
theorem blockAt_lay (bs : List UInt8) (n i j : Nat) (x : List UInt8) (hb : bs.length = n * 64) (hi : i < n) (hj : j < n) (hx : x.length = 64) : blockAt (layAt bs i x) j = if j = i then x else blockAt bs j := by
  have h1 : (bs.take (i * 64)).length = i * 64 := by simp; omega
  by_cases h : j = i
  · subst h
    rw [if_pos rfl, blockAt, layAt, List.append_assoc, List.drop_append, List.drop_eq_nil_of_le (by omega), h1, Nat.sub_self, List.drop_zero, List.nil_append, List.take_append, List.take_of_length_le (by omega), hx, Nat.sub_self, List.take_zero, List.append_nil]
  · rw [if_neg h]
    unfold blockAt layAt
    apply List.ext_getElem?
    intro q
    rw [List.getElem?_take, List.getElem?_take]
    by_cases hq : q < 64
    · rw [if_pos hq, if_pos hq, List.getElem?_drop, List.getElem?_drop, List.append_assoc]
      by_cases hlt : j * 64 + q < i * 64
      · rw [List.getElem?_append_left (by omega), List.getElem?_take, if_pos hlt]
      · have hge : i * 64 + 64 ≤ j * 64 + q := by
          have : i * 64 + 64 ≤ j * 64 := by omega
          omega
        rw [List.getElem?_append_right (by omega), h1, List.getElem?_append_right (by omega), hx, List.getElem?_drop]
        congr 1
        omega
    · rw [if_neg hq, if_neg hq]

/-- The disk is as it was where memory of its kinds is. -/
theorem Disk.same {w w' : World} {g bb : Nat} {fu : Value} {n : Nat} {s : St} (h : Disk w g bb fu n s)
    (he : ∀ (k : Nat) (cs : Array Value) (t : TypeId), w.heap[k]? = some (Obj.cells cs t (0, 0)) → (t = 59 ∨ t = 64 ∨ t = 3 ∨ t = 66) → w'.heap[k]? = w.heap[k]?) : Disk w' g bb fu n s := by
  obtain ⟨cu, cap, sp, h⟩ := h
  refine ⟨cu, cap, sp, (he _ _ _ h.hd (.inl rfl)).trans h.hd, (he _ _ _ h.hb (.inr (.inl rfl))).trans h.hb, h.hl, ?_, ?_⟩
  · have hf := h.hf
    cases hs : s.f with
    | none => rw [hs] at hf; exact hf
    | some k =>
      rw [hs] at hf
      obtain ⟨b, rfl, hb⟩ := hf
      exact ⟨b, rfl, (he _ _ _ hb (.inr (.inr (.inl rfl)))).trans hb⟩
  · have hc := h.hc
    cases hs : s.c with
    | none => rw [hs] at hc; exact hc
    | some k =>
      rw [hs] at hc
      obtain ⟨b, rfl, hl, hb⟩ := hc
      exact ⟨b, rfl, hl, (he _ _ _ hb (.inr (.inr (.inr rfl)))).trans hb⟩

theorem Mine.setOther {B : Nat} {w0 w : World} {g bb : Nat} {fu : Value} {n : Nat} {s : St} (h : Mine B w0 w g bb fu n s) {k : Nat} {cs : Array Value} {t : TypeId} (hk : w.heap[k]? = some (.cells cs t (0, 0))) (hB : B ≤ k)
    (ht : t ≠ 59 ∧ t ≠ 64 ∧ t ≠ 3 ∧ t ≠ 66) (i : Nat) (v : Value) : Mine B w0 (w.setCell ⟨k, i, none⟩ v) g bb fu n s := by
  refine ⟨h.disk.same fun q cq tq hq htq => ?_, h.below.trans (((Below.refl _ w).mono h.size).setCell hB v), by simpa using h.size, h.hg, h.hbb, h.hfu⟩
  refine Below.heap_setCell w ⟨k, i, none⟩ v q ?_
  have : t ≠ tq := by
    rintro rfl
    obtain ⟨h1, h2, h3, h4⟩ := ht
    rcases htq with h | h | h | h <;> contradiction
  exact (types_ne hk hq this).symm

theorem below_sameAt {w w' : World} (h : Below w.heap.size w w') {p : MemPlace} (hp : p.block < w.heap.size) : w.sameAt w' p := by
  cases p with
  | cell b off => exact h.cell (p := ⟨b, off, none⟩) hp
  | map b => simp only [World.sameAt, h.block b hp]

end Go.Proofs.YtlbfjnmhnpioaaaDoor
