/-
  The document's disk goes as the disk does.
-/
import Derived.Test.YtlbfjnmhnpioaaaDoorIs06
import Derived.Test.YtlbfjnmhnpioaaaDoorRefFree
import Derived.Test.YtlbfjnmhnpioaaaDoorDiskFacts
namespace Go.Proofs.YtlbfjnmhnpioaaaDoor
open Go.RowKit
set_option maxRecDepth 100000
set_option linter.unusedVariables false
set_option linter.unusedSimpArgs false

theorem fold_app (ws : List WV) (x : WV) (n : Int) : overlay (ws ++ [x]) n = lay1 n (overlay ws n) x := by
  simp [overlay]
/-- A block behind a part of a write. -/
theorem blockAt_part (bs : List UInt8) (n i j : Nat) (x : List UInt8) (hb : bs.length = n * 64) (hi : i < n) (hj : j < n) (hx : x.length ≤ 64) : blockAt (layAt bs i x) j = if j = i then x ++ (blockAt bs i).drop x.length else blockAt bs j := by
  have h1 : (bs.take (i * 64)).length = i * 64 := by rw [List.length_take]; omega
  apply List.ext_getElem?
  intro q
  unfold blockAt layAt
  rw [List.getElem?_take]
  by_cases hq : q < 64
  · rw [if_pos hq, List.getElem?_drop, List.append_assoc]
    by_cases h : j = i
    · subst h
      rw [if_pos rfl, List.getElem?_append_right (by omega), h1, show j * 64 + q - j * 64 = q by omega]
      by_cases hqx : q < x.length
      · rw [List.getElem?_append_left hqx, List.getElem?_append_left hqx]
      · rw [List.getElem?_append_right (by omega), List.getElem?_append_right (by omega), List.getElem?_drop, List.getElem?_drop, List.getElem?_take, if_pos (by omega), List.getElem?_drop]
        congr 1
        omega
    · rw [if_neg h, List.getElem?_take, if_pos hq, List.getElem?_drop]
      by_cases hlt : j * 64 + q < i * 64
      · rw [List.getElem?_append_left (by omega), List.getElem?_take, if_pos hlt]
      · have hge : i * 64 + 64 ≤ j * 64 + q := by
          have : i * 64 + 64 ≤ j * 64 := by omega
          omega
        rw [List.getElem?_append_right (by omega), h1, List.getElem?_append_right (by omega), List.getElem?_drop]
        congr 1
        omega
  · rw [if_neg hq]
    by_cases h : j = i
    · rw [if_pos h, List.getElem?_eq_none]
      rw [List.length_append, List.length_drop, List.length_take]
      omega
    · rw [if_neg h, List.getElem?_take, if_neg hq]
theorem len_lay (bs : List UInt8) (n i : Nat) (x : List UInt8) (hb : bs.length = n * 64) (hi : i < n) (hx : x.length ≤ 64) : (layAt bs i x).length = n * 64 := by
  have : i * 64 + 64 ≤ n * 64 := by omega
  simp [layAt, hb]; omega
theorem blockAt_zero (n i : Nat) (hi : i < n) : blockAt (List.replicate (n * 64) 0) i = List.replicate 64 0 := by
  have : i * 64 + 64 ≤ n * 64 := by omega
  unfold blockAt
  rw [List.drop_replicate, List.take_replicate]
  congr 1
  omega

theorem rel_new (n : Nat) : Rel n (zeroS n) (newD n) [] where
  nn := rfl
  bl := by simp [zeroS]
  dead := rfl
  steps := rfl
  rb := by simp [newD, noneW]
  ok := fun x hx => by simp at hx
  at' := fun i hi => blockAt_zero n i hi
  fuse := rfl
  cut := fun k x h => by cases h
  none' := fun _ => rfl
theorem Rel.arm {n : Nat} {s : St} {d : DV} {ws : List WV} (h : Rel n s d ws) (k : Nat) (hc : s.c = none) : Rel n (armS s k) { d with fuse := k } ws := by
  have e : armS s k = { s with f := some (k : Int) } := by
    unfold armS
    rw [if_neg]
    rw [hc]
    simp
  rw [e]
  exact ⟨h.nn, h.bl, h.dead, h.steps, h.rb, h.ok, h.at', rfl, h.cut, h.none'⟩
theorem Rel.cutAt {n : Nat} {s : St} {d : DV} {ws : List WV} (h : Rel n s d ws) (hc : s.c = none) (i : Int) (hi : 0 ≤ i ∧ i < n) (b : List UInt8) (hb : b.length ≤ 64) :
    Rel n { s with c := some (i.toNat, fill64 b) } { d with r := ⟨i, fill64 b, 64⟩, dead := true } ws where
  nn := h.nn
  bl := h.bl
  dead := rfl
  steps := h.steps
  rb := len_fill64 b hb
  ok := h.ok
  at' := h.at'
  fuse := h.fuse
  cut := fun k x e => by
    injection e with e
    injection e with e1 e2
    subst e1 e2
    have : ((i.toNat : Nat) : Int) = i := by omega
    exact ⟨by simp [this], by omega⟩
  none' := fun e => by cases e
theorem Rel.free {n : Nat} {s : St} {d : DV} {ws : List WV} (h : Rel n s d ws) (hc : s.c = none) (hf : s.f ≠ some 0) (ho : StOk s) (i : Int) (hi : 0 ≤ i ∧ i < n) (b : List UInt8) (hb : b.length ≤ 64) :
    Rel n { bs := layAt s.bs i.toNat (fill64 b), f := s.f.map (· - 1), c := none, st := s.st + 1 } (bumpD d) (ws ++ [⟨i, fill64 b, 64⟩]) where
  nn := h.nn
  bl := len_lay _ n _ _ h.bl (by omega) (by rw [len_fill64 b hb]; omega)
  dead := by show d.dead = false; rw [h.dead, hc]; rfl
  steps := by show d.steps + 1 = s.st + 1; rw [h.steps]
  rb := h.rb
  ok := fun x hx => by
    rcases List.mem_append.1 hx with hx | hx
    · exact h.ok x hx
    · rw [List.mem_singleton.1 hx]
      exact ⟨len_fill64 b hb, by show (0 : Int) ≤ 64; omega, by show (64 : Int) ≤ 64; omega⟩
  at' := fun j hj => by
    have hl := len_fill64 b hb
    rw [fold_app, lay1, blockAt_part _ n _ j _ h.bl (by omega) hj (by omega), ← h.at' j hj]
    have hbl := len_blockAt s.bs j n h.bl hj
    by_cases e : j = i.toNat
    · have e2 : i = (j : Int) := by omega
      rw [if_pos e, if_pos e2, hl]
      subst e
      rw [List.drop_eq_nil_of_le (by omega)]
      show _ = (fill64 b).take 64 ++ _
      rw [List.take_of_length_le (by omega), List.drop_eq_nil_of_le (by show _ ≤ 64; omega)]
    · rw [if_neg e, if_neg (by show ¬ i = (j : Int); omega)]
  fuse := by
    show (if 0 < d.fuse then d.fuse - 1 else d.fuse) = _
    rw [h.fuse]
    cases hs : s.f with
    | none => simp
    | some k =>
      have hk := ho.2.2 k hs
      have : k ≠ 0 := fun e => hf (by rw [hs, e])
      simp
      omega
  cut := fun k x e => by cases e
  none' := fun _ => h.none' hc
theorem Rel.crash {n : Nat} {s : St} {d : DV} {ws : List WV} (h : Rel n s d ws) (torn : Int) : Rel n (crashS s torn) (newD d.n) (ws ++ tornW d torn) := by
  cases hs : s.c with
  | none =>
    have ht : tornW d torn = [] := by unfold tornW; rw [if_neg]; rw [h.none' hs]; omega
    have hb : crashBs s torn = s.bs := by unfold crashBs; rw [hs]
    rw [ht, List.append_nil]
    exact ⟨h.nn, by show (crashBs s torn).length = _; rw [hb]; exact h.bl, rfl, rfl, by simp [newD, noneW], h.ok, fun i hi => by show blockAt (crashBs s torn) i = _; rw [hb]; exact h.at' i hi, rfl, fun k x e => (by cases e), fun _ => rfl⟩
  | some kx =>
    obtain ⟨k, x⟩ := kx
    obtain ⟨hr, hk⟩ := h.cut k x hs
    have hxl : x.length = 64 := by have := h.rb; rw [hr] at this; exact this
    by_cases ht : 0 < torn
    · have hb : crashBs s torn = layAt s.bs k (x.take (min torn 64).toNat) := by unfold crashBs; rw [hs]; simp [ht]
      have htw : tornW d torn = [⟨k, x, if 64 < torn then 64 else torn⟩] := by
        unfold tornW
        rw [if_pos ⟨by rw [hr]; simp, ht⟩, hr]
      obtain ⟨m, hm⟩ : ∃ m : Nat, (if 64 < torn then 64 else torn) = (m : Int) := ⟨(if 64 < torn then 64 else torn).toNat, by split <;> omega⟩
      have hm64 : m ≤ 64 := by split at hm <;> omega
      have hmt : (min torn 64).toNat = m := by split at hm <;> omega
      rw [htw, hm]
      rw [hmt] at hb
      have hlx : (x.take m).length = m := by rw [List.length_take]; omega
      refine ⟨h.nn, by show (crashBs s torn).length = _; rw [hb]; exact len_lay _ n _ _ h.bl hk (by omega), rfl, rfl, by simp [newD, noneW], fun y hy => ?_, fun j hj => ?_, rfl, fun k x e => (by cases e), fun _ => rfl⟩
      · rcases List.mem_append.1 hy with hy | hy
        · exact h.ok y hy
        · rw [List.mem_singleton.1 hy]
          exact ⟨hxl, by show (0 : Int) ≤ m; omega, by show (m : Int) ≤ 64; omega⟩
      · show blockAt (crashBs s torn) j = _
        rw [hb, fold_app, lay1, blockAt_part _ n _ j _ h.bl hk hj (by omega), hlx, ← h.at' j hj]
        by_cases e : j = k
        · subst e
          rw [if_pos rfl, if_pos rfl]
          simp
        · rw [if_neg e, if_neg (by show ¬ (k : Int) = (j : Int); omega)]
    · have hb : crashBs s torn = s.bs := by unfold crashBs; rw [hs]; simp [ht]
      have htw : tornW d torn = [] := by unfold tornW; rw [if_neg (fun e => ht e.2)]
      rw [htw, List.append_nil]
      exact ⟨h.nn, by show (crashBs s torn).length = _; rw [hb]; exact h.bl, rfl, rfl, by simp [newD, noneW], h.ok, fun i hi => by show blockAt (crashBs s torn) i = _; rw [hb]; exact h.at' i hi, rfl, fun k x e => (by cases e), fun _ => rfl⟩

/-- A write: of the document's as of the disk's. -/
theorem refWrite_rel {n : Nat} {s : St} {d : DV} {ws : List WV} (h : Rel n s d ws) (ho : StOk s) (sv : Value) (hs : sv.oneCell' = true) (hn : ws.length ≤ 100000) (i : Int) (A : Option Addr) (b : List UInt8) (c : Nat) (w : World) (hA : BytesAt w A b) (hL : LAt w sv ws) :
    Calls Tryd.prog 10 #[.agg (d.cells sv).toArray, .int .i64 i, .slice A b.length c] w fun e w' => ∃ d' sv' ws', e = .returned (.tuple #[.agg (d'.cells sv').toArray, .int .i64 (wrC n s i b)]) ∧ sv'.oneCell' = true ∧ LAt w' sv' ws' ∧ Rel n (wrS n s i b) d' ws' ∧ ws'.length ≤ ws.length + 1 ∧ Below w.heap.size w w' := by
  have keep : ∀ w', Below w.heap.size w w' → LAt w' sv ws := fun w' hb => row_keep hL fun k hk => by
    obtain ⟨_, cur, hc⟩ := row_at hL hk
    exact hb.block k (blk_lt hc)
  by_cases hr : 0 ≤ i ∧ i < d.n
  · have hr' : 0 ≤ i ∧ i < (n : Int) := by rw [← h.nn]; exact hr
    by_cases h64 : b.length ≤ 64
    · cases hc : s.c with
      | some kx =>
        have hd : d.dead = true := by rw [h.dead, hc]; rfl
        have e1 : wrC n s i b = 19 := by rw [wrC, if_neg (by simpa using hr'), if_neg (by omega), if_pos (by rw [hc]; rfl)]
        have e2 : wrS n s i b = s := by rw [wrS, if_pos (.inr (.inr (by rw [hc]; rfl)))]
        refine (refWrite_dead d sv h.rb hs i A b c h64 hr hd w hA).mono ?_
        rintro e w' ⟨rfl, hb⟩
        rw [e1, e2]
        exact ⟨d, sv, ws, rfl, hs, keep w' hb, h, by omega, hb⟩
      | none =>
        have hd : d.dead = false := by rw [h.dead, hc]; rfl
        have hbad : ¬ wrBad n s i b := by unfold wrBad; rw [hc]; simp; omega
        by_cases hf : s.f = some 0
        · have e1 : wrC n s i b = 19 := by rw [wrC, if_neg (by simpa using hr'), if_neg (by omega), if_neg (by rw [hc]; simp), if_pos hf]
          have e2 : wrS n s i b = { s with c := some (i.toNat, fill64 b) } := by rw [wrS, if_neg hbad, if_pos hf]
          refine (refWrite_cut d sv h.rb hs i A b c h64 hr hd (by rw [h.fuse, hf]; rfl) w hA).mono ?_
          rintro e w' ⟨rfl, hb⟩
          rw [e1, e2]
          exact ⟨_, sv, ws, rfl, hs, keep w' hb, h.cutAt hc i hr' b h64, by omega, hb⟩
        · have e1 : wrC n s i b = 0 := by rw [wrC, if_neg (by simpa using hr'), if_neg (by omega), if_neg (by rw [hc]; simp), if_neg hf]
          have e2 : wrS n s i b = { bs := layAt s.bs i.toNat (fill64 b), f := s.f.map (· - 1), c := none, st := s.st + 1 } := by rw [wrS, if_neg hbad, if_neg hf]
          have hfu : d.fuse ≠ 0 ∧ -1 ≤ d.fuse ∧ d.fuse ≤ 9223372036854775807 := by
            rw [h.fuse]
            cases hs' : s.f with
            | none => simp
            | some k =>
              have hk := ho.2.2 k hs'
              have : k ≠ 0 := fun e => hf (by rw [hs', e])
              simp
              omega
          refine (refWrite_free d sv ws h.rb hs i A b c h64 hr hd hfu.1 hfu.2 (by rw [h.steps]; exact ⟨ho.1, ho.2.1⟩) hn w hA hL).mono ?_
          rintro e w' ⟨s', rfl, h1, h2, h3⟩
          rw [e1, e2]
          exact ⟨_, s', _, rfl, h1, h2, h.free hc hf ho i hr' b h64, by simp, h3⟩
    · have e1 : wrC n s i b = 2 := by rw [wrC, if_neg (by simpa using hr'), if_pos (by omega)]
      have e2 : wrS n s i b = s := by rw [wrS, if_pos (.inr (.inl (by omega)))]
      refine (refWrite_long d sv h.rb hs i A b.length c (by omega) hr w).mono ?_
      rintro e w' ⟨rfl, hb⟩
      rw [e1, e2]
      exact ⟨d, sv, ws, rfl, hs, keep w' hb, h, by omega, hb⟩
  · have hr' : ¬ (0 ≤ i ∧ i < (n : Int)) := by rw [← h.nn]; exact hr
    have e1 : wrC n s i b = 8 := by rw [wrC, if_pos hr']
    have e2 : wrS n s i b = s := by rw [wrS, if_pos (.inl hr')]
    refine (refWrite_range d sv h.rb hs i _ hr w).mono ?_
    rintro e w' ⟨rfl, hb⟩
    rw [e1, e2]
    exact ⟨d, sv, ws, rfl, hs, keep w' hb, h, by omega, hb⟩

end Go.Proofs.YtlbfjnmhnpioaaaDoor
