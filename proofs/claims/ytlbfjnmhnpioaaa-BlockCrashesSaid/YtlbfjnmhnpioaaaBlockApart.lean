/-
  BlockApart.
-/
import Derived.Test.YtlbfjnmhnpioaaaZeros
namespace Go.Proofs.Ytlbfjnmhnpioaaa
open Go.RowKit
set_option linter.unusedVariables false
set_option linter.unusedSimpArgs false

/-- A block as a text. -/
def txt (bs : List UInt8) (i : Nat) : ByteArray := ⟨(blockAt bs i).toArray⟩
/-- What was read of the first j blocks. -/
def wasA (bs : List UInt8) (j : Nat) : Array Value := ((List.range 8).map fun i => if i < j then Value.string (txt bs i) else .string ByteArray.empty).toArray
theorem wasA_get (bs : List UInt8) (j i : Nat) (hi : i < 8) : (wasA bs j)[i]? = some (if i < j then Value.string (txt bs i) else .string ByteArray.empty) := by
  simp [wasA, hi]
theorem wasA_set (bs : List UInt8) (j : Nat) : (wasA bs j).setIfInBounds j (.string (txt bs j)) = wasA bs (j + 1) := by
  refine Array.ext_getElem? fun i => ?_
  rw [Array.getElem?_setIfInBounds]
  by_cases hi : i < 8
  · rw [wasA_get _ _ _ hi, wasA_get _ _ _ hi]
    by_cases h : j = i
    · subst h; simp [wasA, hi]
    · rw [if_neg h]
      by_cases h3 : i < j
      · rw [if_pos h3, if_pos (by omega)]
      · rw [if_neg h3, if_neg (by omega)]
  · have h1 : (wasA bs j)[i]? = none := by simp [wasA]; omega
    have h2 : (wasA bs (j + 1))[i]? = none := by simp [wasA]; omega
    rw [h1, h2]
    by_cases h : j = i
    · subst h; simp [wasA, hi]
    · rw [if_neg h]

theorem Mine.blen {B : Nat} {w0 w : World} {g bb : Nat} {fu : Value} {n : Nat} {s : St} (h : Mine B w0 w g bb fu n s) : s.bs.length = n * 64 := by
  obtain ⟨_, _, _, hd⟩ := h.disk
  exact hd.hl

theorem Disk.off {w : World} {g bb : Nat} {fu : Value} {n : Nat} {s : St} (h : Disk w g bb fu n s) {k : Nat} {cs : Array Value} {t : TypeId} (hk : w.heap[k]? = some (.cells cs t (0, 0)))
    (ht : t ≠ 62 ∧ t ≠ 64 ∧ t ≠ 3) : ¬ footD g bb fu k := by
  obtain ⟨cu, cap, sp, h⟩ := h
  obtain ⟨h1, h2, h3⟩ := ht
  rintro (rfl | rfl | rfl)
  · exact types_ne hk h.hd h1 rfl
  · exact types_ne hk h.hb h2 rfl
  · have hf := h.hf
    cases hs : s.f with
    | none => rw [hs] at hf; cases hf
    | some q =>
      rw [hs] at hf
      obtain ⟨b, hb, hh⟩ := hf
      injection hb with hb; injection hb with hb; injection hb with hb _ _
      subst hb
      exact types_ne hk hh h3 rfl

theorem k_of (n : Int) : ∃ k : Nat, k < 8 ∧ wrap64 ((IntKind.u64.wrap n).tmod 8) = (k : Int) := by
  have h : 0 ≤ IntKind.u64.wrap n := by
    have : IntKind.u64.wrap n = n % 18446744073709551616 := by
      simp [IntKind.wrap, IntKind.signed, IntKind.bits]
    rw [this]
    omega
  refine ⟨((IntKind.u64.wrap n).tmod 8).toNat, ?_, ?_⟩
  · rw [Int.tmod_eq_emod_of_nonneg h]; omega
  · rw [Int.tmod_eq_emod_of_nonneg h]
    unfold wrap64
    omega

theorem str_block {w : World} {b : Nat} {bs : List UInt8} {sp : List Value} {e : TypeId} {fr : Nat × Nat} (cap i : Nat) (hl : (blockAt bs i).length = 64) (h : w.heap[b]? = some (.cells (bytesV (blockAt bs i) ++ sp).toArray e fr)) :
    (convert 22 9 (.slice (some ⟨b, 0, none⟩) 64 cap)).run Try.prog w = .ok (.string (txt bs i)) w := by
  have := str_take (w := w) cap (blockAt bs i) h (by rw [List.take_length])
  rw [hl] at this
  exact this
theorem str_fill {w : World} {b : Nat} {x : List UInt8} {sp : List Value} {e : TypeId} {fr : Nat × Nat} (cap : Nat) (hl : x.length = 64) (h : w.heap[b]? = some (.cells (bytesV x ++ sp).toArray e fr)) :
    (convert 22 9 (.slice (some ⟨b, 0, none⟩) 64 cap)).run Try.prog w = .ok (.string ⟨x.toArray⟩) w := by
  have := str_take (w := w) cap x h (by rw [List.take_length])
  rw [hl] at this
  exact this

set_option maxRecDepth 100000 in
set_option maxHeartbeats 4000000 in
theorem apart6_few (n : Int) (pb : Option Addr) (b : List UInt8) (cb : Nat) (pl : Option Addr) (l : List ActV) (cl : Nat) (w : World) (hB : BytesAt w pb b) (hl : l.length ≤ maxLen) (hL : ActsAt w pl l)
    (hf : fewB l = true) (h64 : b.length ≤ 64) (hn : (Lit.int .i64 n).wf = true) :
    Calls Try.prog 3 #[.int .i64 n, .slice pb b.length cb, .slice pl l.length cl] w fun e w' => e = .returned (.bool true) ∧ Below w.heap.size w w' := by
  have h0 := awake6_any w
  have HB := Lib.hid hB
  have HL := Lib.hid hL
  have HF := Lib.hid hf
  have HN := Lib.hid hn
  have h40 : l.length ≤ 40 := by
    unfold fewB at hf
    simp at hf
    exact hf.2
  clear hB hL hl hn
  go_enter Try.func3, Try.ntmps3
  go_wp2_with fail
  refine h0.mono ?_
  rintro e w1 ⟨rfl, hb1⟩
  have h1 := few_any pl l cl w1 (by unfold maxLen; omega) (fun i x hx => let ⟨a, h1, h2⟩ := HL.out i x hx; ⟨a, h1, h2.below hb1⟩)
  rw [hf] at h1
  clear h0 hf
  go_wp2_with fail
  refine h1.mono ?_
  rintro e w2 ⟨rfl, hb2⟩
  have hB2 : Below w.heap.size w w2 := hb1.trans (hb2.mono hb1.size)
  have h2 := mine_new 8 w2 (by omega) (by omega) w.heap.size w hB2 hB2.size
  clear h1
  go_wp2_with fail
  refine h2.mono ?_
  rintro e w3 ⟨g, bb, rfl, hm3, hb3, _, _⟩
  change Mine _ _ _ _ _ _ _ (zeroS 8) at hm3
  clear h2
  go_wp2_with fail
  go_loopw [45] (fun i wr => ∃ j : Nat, j ≤ l.length ∧ i = .int .i64 j ∧ Mine w.heap.size w wr g bb (.pointer none) 8 (actsS (zeroS 8) (l.take j))) (fun i _ => l.length - (intOf i).toNat)
  case atStart => exact ⟨0, Nat.zero_le _, rfl, hm3⟩
  case round =>
    obtain ⟨j, hj, rfl, hm⟩ := hrel
    by_cases hlt : j < l.length
    · obtain ⟨x, hx⟩ : ∃ x, l[j]? = some x := ⟨_, List.getElem?_eq_getElem hlt⟩
      obtain ⟨a, rfl, ha⟩ := HL.out j x hx
      have ha' := ha.below hm.below
      have c0 := ha'.k
      have c1 := ha'.n
      obtain ⟨q, cq, c2, hq⟩ := ha'.b
      have hgood := (good_acts (l.take j) (good_zero 8)).ok (by rw [List.length_take]; omega)
      have h4 := (hm.later ((Below.refl _ wr).alloc (Nat.le_refl _) (.cells #[.int .u8 x.k, .int .i64 x.n, .slice q x.b.length cq] 32))).write hgood (by omega) x.n q x.b cq (fun _ => hq.below ((Below.refl _ wr).alloc (Nat.le_refl _) _))
      rw [← actsS_snoc (zeroS 8) l j x hx] at h4
      have H4 := Lib.hid h4
      clear h4 hx ha ha' hq hgood
      go_wp2_with fail
      refine H4.out.mono ?_
      rintro e w4 ⟨rfl, hm4, hk4⟩
      clear H4
      go_wp2_with fail
      go_roundw
      case rel => exact ⟨j + 1, by omega, by go_num, hm4⟩
      case measure => simp [intOf]; omega
    · have hjl : j = l.length := by omega
      subst hjl
      rw [List.take_length] at hm
      have hgood := good_acts l (good_zero 8)
      have hcalm : Calm (actsS (zeroS 8) l) := calm_acts l ⟨rfl, rfl⟩
      obtain ⟨s1, hs1⟩ : ∃ s, s = actsS (zeroS 8) l := ⟨_, rfl⟩
      rw [← hs1] at hm hgood hcalm
      have HG := Lib.hid hgood
      have HC := Lib.hid hcalm
      clear hgood hcalm hs1
      obtain ⟨k, hk8, hke⟩ := k_of n
      go_wp2_with fail
      rw [hke]
      clear hke
      obtain ⟨wx, hwx⟩ : ∃ wx, wx = wr := ⟨_, rfl⟩
      subst hwx
      go_loopw [60] (fun i wq => ∃ j : Nat, j ≤ 8 ∧ i = .int .i64 j ∧ Mine w.heap.size w wq g bb (.pointer none) 8 s1 ∧ wq.heap[wx.heap.size]? = some (.cells (wasA s1.bs j) 35 (0, 0))) (fun i _ => 8 - (intOf i).toNat)
      case atStart => exact ⟨0, Nat.zero_le _, rfl, hm.later ((Below.refl _ wx).alloc (Nat.le_refl _) _), heap_alloc_new _ _⟩
      case round =>
        obtain ⟨j, hj8, rfl, hmq, hwq⟩ := hrel
        by_cases hlt8 : j < 8
        · have h5 := read_any hmq.disk j hlt8
          go_wp2_with fail
          refine h5.mono ?_
          rintro e w5 ⟨bj, cap, sp, rfl, hbj, hcap, hxj, hBj⟩
          have hst := str_block cap j (len_blockAt s1.bs j 8 hmq.blen hlt8) hxj
          have hm5 := hmq.later hBj
          have hw5 := (hBj.block wx.heap.size (blk_lt hwq)).trans hwq
          have hst2 := hm5.setOther hw5 hm.size (by decide) j (.string (txt s1.bs j))
          have hst3 := blk_set hw5 j (.string (txt s1.bs j))
          rw [wasA_set] at hst3
          have cj : w5.cell? ⟨wx.heap.size, j, none⟩ = some (.string ByteArray.empty) := by
            rw [blk_cell hw5, wasA_get _ _ _ hlt8, if_neg (Nat.lt_irrefl j)]
          have fj := blk_frozen hw5 j
          have HW3 := Lib.hid hst3
          clear h5 hxj hBj hw5 hst3
          go_wp2_with fail
          go_roundw
          case rel => exact ⟨j + 1, by omega, by go_num, hst2, HW3.out⟩
          case measure => simp [intOf]; omega
        · have hj8' : j = 8 := by omega
          subst hj8'
          have h6 := hmq.write (HG.out.ok (by omega)) (by omega) k pb b cb (fun _ => HB.out.below hmq.below)
          rw [HC.out.code 8 k hk8 b h64] at h6
          have hmb := Lib.hid (HC.out.bs 8 k hk8 b h64)
          rw [show errV 0 = .nilIface from rfl] at h6
          have H6 := Lib.hid h6
          clear h6
          go_wp2_with fail
          refine H6.out.mono ?_
          rintro e w6 ⟨rfl, hm6, hk6⟩
          have hlen1 := hmq.blen
          obtain ⟨s2, hs2⟩ : ∃ s, s = wrS 8 s1 k b := ⟨_, rfl⟩
          have HMB := hmb.out
          rw [← hs2] at hm6 HMB
          have HMB := Lib.hid HMB
          have HL1 := Lib.hid hlen1
          have hw6 := (hk6.block wx.heap.size (blk_lt hwq) (hmq.disk.off hwq (by decide))).trans hwq
          clear H6 hmb hlen1 hs2
          go_wp2_with fail
          go_loopw [79] (fun i wq => ∃ j : Nat, j ≤ 8 ∧ i = .int .i64 j ∧ Mine w.heap.size w wq g bb (.pointer none) 8 s2 ∧ wq.heap[wx.heap.size]? = some (.cells (wasA s1.bs 8) 35 (0, 0))) (fun i _ => 8 - (intOf i).toNat)
          case atStart => exact ⟨0, Nat.zero_le _, rfl, hm6, hw6⟩
          case round =>
            obtain ⟨j, hj9, rfl, hmz, hwz⟩ := hrel
            by_cases hlt9 : j < 8
            · have h7 := read_any hmz.disk j hlt9
              go_wp2_with fail
              refine h7.mono ?_
              rintro e w7 ⟨bj, cap, sp, rfl, hbj, hcap, hxj, hBj⟩
              have hm7 := hmz.later hBj
              have hw7 := (hBj.block wx.heap.size (blk_lt hwz)).trans hwz
              have cj : w7.cell? ⟨wx.heap.size, j, none⟩ = some (.string (txt s1.bs j)) := by
                rw [blk_cell hw7, wasA_get _ _ _ hlt9, if_pos hlt9]
              have hl2 := len_blockAt s2.bs j 8 hmz.blen hlt9
              have htx : txt s2.bs j = if j = k then ⟨(fill64 b).toArray⟩ else txt s1.bs j := by
                unfold txt
                rw [HMB.out, blockAt_lay s1.bs 8 k j _ HL1.out hk8 hlt9 (len_fill64 b h64)]
                split <;> rfl
              have HW7 := Lib.hid hw7
              have HXJ := Lib.hid hxj
              have HTX := Lib.hid htx
              have HL2 := Lib.hid hl2
              clear h7 hBj hw7 hxj htx hl2
              by_cases hjk : j = k
              · subst hjk
                obtain ⟨v1, w8, g9, cap9, sp9, w9, hr1, hr2, hg9, hb9, hx9⟩ := run_want w7 22 22 pb b cb (HB.out.below hm7.below) h64
                have hc1 := str_fill cap9 (len_fill64 b h64) hx9
                have hc2 := str_block cap j HL2.out ((hb9.block bj (blk_lt HXJ.out)).trans HXJ.out)
                rw [HTX.out, if_pos rfl] at hc2
                have hm9 := hm7.later hb9
                have hw9 := (hb9.block wx.heap.size (blk_lt HW7.out)).trans HW7.out
                have HR1 := Lib.hid hr1
                have HR2 := Lib.hid hr2
                have HX9 := Lib.hid hx9
                have HW9 := Lib.hid hw9
                clear hr1 hr2 hx9 hw9
                go_wp2_with (at_builtin; first | (refine Lib.wpList_append_run _ rfl (.tmp 94) (.tmp 95) 22 22 rfl _ _ rfl rfl v1 w8 HR1.out ?_) | (refine Lib.wpList_append_run _ rfl (.tmp 96) (.tmp 99) 22 3 rfl _ _ rfl rfl _ w9 HR2.out ?_))
                go_roundw
                case rel => exact ⟨j + 1, by omega, by go_num, hm9, HW9.out⟩
                case measure => simp [intOf]; omega
              · have hjk2 : ((j : Int) == (k : Int)) = false := by
                  rw [beq_eq_false_iff_ne]
                  omega
                have hst := str_block cap j HL2.out HXJ.out
                rw [HTX.out, if_neg hjk] at hst
                go_wp2_with fail
                go_roundw
                case rel => exact ⟨j + 1, by omega, by go_num, hm7, HW7.out⟩
                case measure => simp [intOf]; omega
            · go_wp2_with fail
              go_ret
              exact ⟨rfl, hmz.below⟩

set_option maxRecDepth 100000 in
set_option maxHeartbeats 4000000 in
theorem apart6_any (n : Int) (pb : Option Addr) (b : List UInt8) (cb : Nat) (pl : Option Addr) (l : List ActV) (cl : Nat) (w : World) (hB : BytesAt w pb b) (hl : l.length ≤ maxLen) (hL : ActsAt w pl l)
    (hn : (Lit.int .i64 n).wf = true) :
    Calls Try.prog 3 #[.int .i64 n, .slice pb b.length cb, .slice pl l.length cl] w fun e w' => e = .returned (.bool true) ∧ Below w.heap.size w w' := by
  by_cases h64 : b.length ≤ 64
  · cases hf : fewB l with
    | true => exact apart6_few n pb b cb pl l cl w hB hl hL hf h64 hn
    | false =>
      have h0 := awake6_any w
      have HL := Lib.hid hL
      have Hl := Lib.hid hl
      clear hB hL hl hn
      go_enter Try.func3, Try.ntmps3
      go_wp2_with fail
      refine h0.mono ?_
      rintro e w1 ⟨rfl, hb1⟩
      have h1 := few_any pl l cl w1 Hl.out (fun i x hx => let ⟨a, h1, h2⟩ := HL.out i x hx; ⟨a, h1, h2.below hb1⟩)
      rw [hf] at h1
      clear h0 hf
      go_wp2_with fail
      refine h1.mono ?_
      rintro e w2 ⟨rfl, hb2⟩
      have h2 := awake6_any w2
      clear h1
      go_wp2_with fail
      refine h2.mono ?_
      rintro e w3 ⟨rfl, hb3⟩
      clear h2
      go_wp2_with fail
      go_ret
      have hB2 : Below w.heap.size w w2 := hb1.trans (hb2.mono hb1.size)
      exact ⟨rfl, hB2.trans (hb3.mono hB2.size)⟩
  · have h0 := awake6_any w
    have HL := Lib.hid hL
    have Hl := Lib.hid hl
    clear hB hL hl hn
    go_enter Try.func3, Try.ntmps3
    go_wp2_with fail
    refine h0.mono ?_
    rintro e w1 ⟨rfl, hb1⟩
    have h1 := few_any pl l cl w1 Hl.out (fun i x hx => let ⟨a, h1, h2⟩ := HL.out i x hx; ⟨a, h1, h2.below hb1⟩)
    clear h0
    cases hf : fewB l
    · rw [hf] at h1
      clear hf
      go_wp2_with fail
      refine h1.mono ?_
      rintro e w2 ⟨rfl, hb2⟩
      have h2 := awake6_any w2
      clear h1
      go_wp2_with fail
      refine h2.mono ?_
      rintro e w3 ⟨rfl, hb3⟩
      clear h2
      go_wp2_with fail
      go_ret
      have hB2 : Below w.heap.size w w2 := hb1.trans (hb2.mono hb1.size)
      exact ⟨rfl, hB2.trans (hb3.mono hB2.size)⟩
    · rw [hf] at h1
      clear hf
      go_wp2_with fail
      refine h1.mono ?_
      rintro e w2 ⟨rfl, hb2⟩
      have h2 := awake6_any w2
      clear h1
      go_wp2_with fail
      refine h2.mono ?_
      rintro e w3 ⟨rfl, hb3⟩
      clear h2
      go_wp2_with fail
      go_ret
      have hB2 : Below w.heap.size w w2 := hb1.trans (hb2.mono hb1.size)
      exact ⟨rfl, hB2.trans (hb3.mono hB2.size)⟩

end Go.Proofs.Ytlbfjnmhnpioaaa
