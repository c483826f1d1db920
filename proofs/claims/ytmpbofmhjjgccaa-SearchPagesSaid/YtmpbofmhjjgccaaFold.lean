/-
  Fold, and the document's Fold.
-/
import Derived.Test.YtmpbofmhjjgccaaCommon
import Derived.Test.YtmpbofmhjjgccaaBlk
import Derived.Lib.ConvBytes
import Derived.Lib.Hide
import Derived.Deep.Cut
import Derived.Laws.IdiomStrings
import Derived.Laws.Tables
import Derived.WalkLawsBesides
import Derived.WalkSpells
namespace Go.Proofs.Ytmpbofmhjjgccaa
open Go.RowKit
set_option maxRecDepth 100000
set_option linter.unusedVariables false
set_option linter.unusedSimpArgs false

theorem ret_str {a b : ByteArray} (h : a = b) : Ending.returned (.string a) = .returned (.string b) := by rw [h]
theorem ret_boolF {a b : Bool} (h : a = b) : Ending.returned (.bool a) = .returned (.bool b) := by rw [h]
/-- A byte folded; a text folded. -/
def foldB (c : UInt8) : UInt8 := if 65 ≤ c.toNat ∧ c.toNat ≤ 90 then c + 32 else c
def foldS (s : ByteArray) : ByteArray := ⟨(s.data.toList.map foldB).toArray⟩
theorem foldB_up (c : UInt8) (h : 65 ≤ c.toNat ∧ c.toNat ≤ 90) : (foldB c).toNat = c.toNat + 32 := by
  unfold foldB
  rw [if_pos h, UInt8.toNat_add]
  have : (32 : UInt8).toNat = 32 := rfl
  omega
theorem foldB_same (c : UInt8) (h : ¬ (65 ≤ c.toNat ∧ c.toNat ≤ 90)) : foldB c = c := if_neg h
theorem foldB_twice (c : UInt8) : foldB (foldB c) = foldB c := by
  by_cases h : 65 ≤ c.toNat ∧ c.toNat ≤ 90
  · have := foldB_up c h
    exact foldB_same _ (by omega)
  · rw [foldB_same c h, foldB_same c h]
theorem size_foldS (s : ByteArray) : (foldS s).size = s.size := by
  show (s.data.toList.map foldB).toArray.size = s.data.size
  simp
theorem foldS_twice (s : ByteArray) : foldS (foldS s) = foldS s := by
  unfold foldS
  simp only [List.map_map]
  congr 2
  apply List.map_congr_left
  intro c _
  exact foldB_twice c

/-- What the row holds behind k rounds. -/
def FoldAt (w : World) (b n : Nat) (s : ByteArray) (k : Nat) : Prop :=
  ∃ cs : Array Value, w.heap[b]? = some (.cells cs 5 (n, n + 1)) ∧ s.size ≤ n ∧ ∀ j (hj : j < s.data.toList.length), cs[j]? = some (.int .u8 (if j < k then foldB s.data.toList[j] else s.data.toList[j]).toNat)
theorem FoldAt.start (w : World) (s : ByteArray) : FoldAt (Lib.bytesWorld w 5 s) w.heap.size (Lib.bytesCells w 5 s).size s 0 := by
  refine ⟨_, Lib.bytesWorld_at_new w 5 s, ?_, fun j hj => ?_⟩
  · simp [Lib.bytesCells]
  · have hj' : j < s.size := by simpa using hj
    unfold Lib.bytesCells
    rw [Array.getElem?_append_left (by simpa using hj')]
    simp [hj']
theorem FoldAt.set {w : World} {b n : Nat} {s : ByteArray} {k : Nat} (h : FoldAt w b n s k) (hk : k < s.data.toList.length) : FoldAt (w.setCell ⟨b, k, none⟩ (.int .u8 (foldB s.data.toList[k]).toNat)) b n s (k + 1) := by
  obtain ⟨cs, h1, h2, h3⟩ := h
  refine ⟨cs.setIfInBounds k (.int .u8 (foldB s.data.toList[k]).toNat), ?_, h2, fun j hj => ?_⟩
  · rw [setCell_eq_setRow w b k cs 5 (n, n + 1) _ h1]
    exact setRow_heap w b cs _ 5 (n, n + 1) h1
  · rw [Array.getElem?_setIfInBounds]
    by_cases e : k = j
    · subst e
      have hkc : k < cs.size := (Array.getElem?_eq_some_iff.1 (h3 k hk)).1
      simp [hkc]
    · rw [if_neg e, h3 j hj]
      by_cases hlt : j < k
      · rw [if_pos hlt, if_pos (by omega)]
      · rw [if_neg hlt, if_neg (by omega)]
theorem FoldAt.same {w : World} {b n : Nat} {s : ByteArray} {k : Nat} (h : FoldAt w b n s k) (hk : k < s.data.toList.length) (he : foldB s.data.toList[k] = s.data.toList[k]) : FoldAt w b n s (k + 1) := by
  obtain ⟨cs, h1, h2, h3⟩ := h
  refine ⟨cs, h1, h2, fun j hj => ?_⟩
  rw [h3 j hj]
  by_cases e : k = j
  · subst e
    rw [if_neg (Nat.lt_irrefl _), if_pos (Nat.lt_succ_self _), he]
  · by_cases hlt : j < k
    · rw [if_pos hlt, if_pos (by omega)]
    · rw [if_neg hlt, if_neg (by omega)]

set_option maxHeartbeats 4000000 in
theorem fold_any (s : ByteArray) (w : World) (hs : s.size ≤ maxLen) :
    Calls Try.prog 12 #[.string s] w fun e w' => e = .returned (.string (foldS s)) ∧ Below w.heap.size w w' := by
  have hlen : s.data.toList.length = s.size := by simp
  have hs' : s.size ≤ 9223372036854775807 := by unfold maxLen at hs; omega
  have kc := Lib.run_convert_string_bytes (P := Try.prog) w 9 54 5 s Try.underlying9 Try.underlying54 Try.underlying5
  have hF := FoldAt.start w s
  have hB : Below w.heap.size w (Lib.bytesWorld w 5 s) := ⟨rfl, rfl, rfl, by rw [Lib.bytesWorld_size]; omega, fun k hk => Lib.bytesWorld_at_old w 5 s k hk⟩
  generalize grownCap w s.size 0 5 = cap at kc
  generalize (Lib.bytesCells w 5 s).size = n at hF
  generalize Lib.bytesWorld w 5 s = W1 at kc hF hB
  have HF := Lib.hid hF
  have HLEN := Lib.hid hlen
  clear hs hlen hF
  go_enter Try.func12, Try.ntmps12
  go_wp2_with fail
  go_loopw [10] (fun i wq => ∃ k : Nat, k ≤ s.size ∧ i = .int .i64 k ∧ Below w.heap.size w wq ∧ Hid (FoldAt wq w.heap.size n s k)) (fun i _ => s.size - (intOf i).toNat)
  case atStart => exact ⟨0, Nat.zero_le _, rfl, hB, HF⟩
  case round =>
    clear hB HF kc
    obtain ⟨k, hk, rfl, hb, hf⟩ := hrel
    by_cases hlt : k < s.size
    · have hkl : k < s.data.toList.length := by rw [HLEN.out]; exact hlt
      obtain ⟨cs, h1, h2, h3⟩ := hf.out
      obtain ⟨c, hc⟩ : ∃ c, c = s.data.toList[k] := ⟨_, rfl⟩
      have ck : wr.cell? ⟨w.heap.size, k, none⟩ = some (.int .u8 c.toNat) := by
        rw [blk_cell h1, h3 k hkl, if_neg (Nat.lt_irrefl _), hc]
      have fk : wr.frozen? ⟨w.heap.size, k, none⟩ = false := by
        simp [World.frozen?, h1]
        omega
      have hc256 : c.toNat < 256 := UInt8.toNat_lt c
      have HC := Lib.hid hc
      clear h1 h2 h3 hc
      by_cases hu : 65 ≤ c.toNat ∧ c.toNat ≤ 90
      · have hup := foldB_up c hu
        have HUP := Lib.hid hup
        obtain ⟨hu1, hu2⟩ := hu
        clear hup
        go_wp2_with fail
        go_roundw
        case rel =>
          refine ⟨k + 1, by omega, by go_num, hb.setCell (Nat.le_refl _) _, Lib.hid ?_⟩
          have hset := hf.out.set hkl
          rw [← HC.out, HUP.out] at hset
          rw [show ((c.toNat : Int) - 65 + 97) = ((c.toNat + 32 : Nat) : Int) by omega]
          exact hset
        case measure => simp [intOf]; omega
      · have hsame := foldB_same c hu
        have HS := Lib.hid hsame
        clear hsame
        by_cases hu1 : 65 ≤ c.toNat
        · have hu2 : 90 < c.toNat := by omega
          clear hu
          go_wp2_with fail
          go_roundw
          case rel => exact ⟨k + 1, by omega, by go_num, hb, Lib.hid (hf.out.same hkl (by rw [← HC.out]; exact HS.out))⟩
          case measure => simp [intOf]; omega
        · clear hu
          go_wp2_with fail
          go_roundw
          case rel => exact ⟨k + 1, by omega, by go_num, hb, Lib.hid (hf.out.same hkl (by rw [← HC.out]; exact HS.out))⟩
          case measure => simp [intOf]; omega
    · have hks : k = s.size := by omega
      subst hks
      have hcv := run_convert_bytes_back (P := Try.prog) wr 54 9 5 ⟨w.heap.size, 0, none⟩ cap (s.data.toList.map foldB) Try.underlying54 Try.underlying5 Try.underlying9 (fun j hj => by
        have hj' : j < s.data.toList.length := by simpa using hj
        obtain ⟨cs, h1, h2, h3⟩ := hf.out
        have : (⟨w.heap.size, 0, none⟩ : Addr).add j = ⟨w.heap.size, j, none⟩ := by unfold Addr.add; split <;> simp_all
        rw [this, blk_cell h1, h3 j hj', if_pos (by rw [HLEN.out] at hj'; exact hj')]
        simp)
      rw [List.length_map, HLEN.out] at hcv
      change _ = Result.ok (Value.string (foldS s)) wr at hcv
      generalize hfs : foldS s = fs at hcv
      have HFS := Lib.hid hfs
      clear hfs
      go_wp2_with fail
      go_ret
      exact ⟨by rw [HFS.out]; rfl, hb⟩

set_option maxHeartbeats 1000000 in
theorem fold_byte (c : UInt8) (w : World) : Calls Try.prog 20 #[.int .u8 c.toNat] w fun e w' => e = .returned (.int .u8 (foldB c).toNat) ∧ w = w' := by
  have hc256 : c.toNat < 256 := UInt8.toNat_lt c
  by_cases hu : 65 ≤ c.toNat ∧ c.toNat ≤ 90
  · have hup := foldB_up c hu
    rw [hup]
    obtain ⟨hu1, hu2⟩ := hu
    clear hup
    go_enter Try.func20, Try.ntmps20
    go_wp2
    go_ret
    exact ⟨rfl, rfl⟩
  · rw [foldB_same c hu]
    by_cases hu1 : 65 ≤ c.toNat
    · have hu2 : 90 < c.toNat := by omega
      clear hu
      go_enter Try.func20, Try.ntmps20
      go_wp2
      go_ret
      exact ⟨rfl, rfl⟩
    · clear hu
      go_enter Try.func20, Try.ntmps20
      go_wp2
      go_ret
      exact ⟨rfl, rfl⟩

/-- The first k bytes folded. -/
def foldP (s : ByteArray) (k : Nat) : ByteArray := ⟨((s.data.toList.take k).map foldB).toArray⟩
theorem foldP_all (s : ByteArray) : foldP s s.size = foldS s := by
  unfold foldP foldS
  rw [List.take_of_length_le (by simp)]
theorem foldP_succ (s : ByteArray) (k : Nat) (h : k < s.data.toList.length) : foldP s k ++ ⟨#[foldB s.data.toList[k]]⟩ = foldP s (k + 1) := by
  refine WideShapes.bytes_inj ?_
  unfold foldP
  rw [List.take_add_one, List.getElem?_eq_getElem h]
  simp
theorem size_foldP (s : ByteArray) (k : Nat) (h : k ≤ s.size) : (foldP s k).size = k := by
  show ((s.data.toList.take k).map foldB).toArray.size = k
  simp
  exact Nat.min_eq_left h

set_option maxHeartbeats 4000000 in
theorem refFold_any (s : ByteArray) (w : World) (hs : s.size ≤ 1000) :
    Calls Try.prog 13 #[.string s] w fun e w' => e = .returned (.string (foldS s)) ∧ Below w.heap.size w w' := by
  have hlen : s.data.toList.length = s.size := by simp
  have HLEN := Lib.hid hlen
  clear hlen
  go_enter Try.func13, Try.ntmps13
  go_wp2_with fail
  go_loopw [7, 3] (fun i t wq => ∃ k : Nat, k ≤ s.size ∧ i = .int .i64 k ∧ t = .string (foldP s k) ∧ Below w.heap.size w wq) (fun i t _ => s.size - (intOf i).toNat)
  case atStart => exact ⟨0, Nat.zero_le _, rfl, rfl, Below.refl _ _⟩
  case round =>
    obtain ⟨k, hk, rfl, rfl, hb⟩ := hrel
    by_cases hlt : k < s.size
    · have hkl : k < s.data.toList.length := by rw [HLEN.out]; exact hlt
      have hfs := foldP_succ s k hkl
      have hzk := size_foldP s k hk
      have h1 := fold_byte s[k] wr
      change foldP s k ++ (⟨#[foldB s[k]]⟩ : ByteArray) = foldP s (k + 1) at hfs
      have hcv : (convert 54 9 (.slice (some ⟨wr.heap.size, 0, none⟩) 1 1)).run Try.prog (wr.alloc (.cells #[.int .u8 (foldB s[k]).toNat] 5)) = .ok (.string ⟨#[foldB s[k]]⟩) (wr.alloc (.cells #[.int .u8 (foldB s[k]).toNat] 5)) := run_convert_bytes_back (P := Try.prog) (wr.alloc (.cells #[.int .u8 (foldB s[k]).toNat] 5)) 54 9 5 ⟨wr.heap.size, 0, none⟩ 1 [foldB s[k]] Try.underlying54 Try.underlying5 Try.underlying9 (fun j hj => by
        have : j = 0 := by simp at hj; omega
        subst this
        simp [Addr.add])
      have hb2 : Below w.heap.size w (wr.alloc (.cells #[.int .u8 (foldB s[k]).toNat] 5)) := hb.alloc hb.size _
      generalize hP : foldP s k = P at hfs hzk ⊢
      have HFS := Lib.hid hfs
      have HP := Lib.hid hP
      clear hP hfs
      go_wp2_with fail
      refine h1.mono ?_
      rintro e w' ⟨rfl, rfl⟩
      clear h1
      go_wp2_with fail
      go_roundw
      case rel => exact ⟨k + 1, by omega, by go_num, by rw [← HFS.out], hb2⟩
      case measure => simp [intOf]; omega
    · have hks : k = s.size := by omega
      subst hks
      have HF := Lib.hid (foldP_all s)
      generalize foldP s s.size = P at HF ⊢
      go_wp2_with fail
      go_ret
      exact ⟨by rw [← HF.out]; rfl, hb⟩

end Go.Proofs.Ytmpbofmhjjgccaa
