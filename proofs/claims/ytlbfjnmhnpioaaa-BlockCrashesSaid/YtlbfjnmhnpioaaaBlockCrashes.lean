/-
  BlockCrashes.
-/
import Derived.Test.YtlbfjnmhnpioaaaRel06
namespace Go.Proofs.Ytlbfjnmhnpioaaa
open Go.RowKit
set_option linter.unusedVariables false
set_option linter.unusedSimpArgs false

/-- A disk of the document in a block, with its list: as the disk. -/
def RefAt (w : World) (q n : Nat) (s : St) (m : Nat) : Prop := ∃ d sv ws, DAt w q d sv ∧ sv.oneCell' = true ∧ LAt w sv ws ∧ Rel n s d ws ∧ ws.length ≤ m
theorem LAt.kept {w w' : World} {sv : Value} {ws : List WV} (h : LAt w sv ws) (hk : ∀ (k : Nat) (cs : Array Value), w.heap[k]? = some (.cells cs 47 (0, 0)) → w'.heap[k]? = w.heap[k]?) : LAt w' sv ws :=
  row_keep h fun k hk' => by
    obtain ⟨_, cur, hc⟩ := row_at h hk'
    exact hk k cur hc
theorem LAt.below {w w' : World} {sv : Value} {ws : List WV} (h : LAt w sv ws) (hb : Below w.heap.size w w') : LAt w' sv ws := h.kept fun k cs hc => hb.block k (blk_lt hc)
theorem RefAt.only {w w' : World} {q n g bb : Nat} {fu : Value} {s st : St} {m nn : Nat} (h : RefAt w q n s m) (hd : Disk w g bb fu nn st) (hk : Only (footD g bb fu) w w') : RefAt w' q n s m := by
  obtain ⟨d, sv, ws, h1, h2, h3, h4, h5⟩ := h
  exact ⟨d, sv, ws, (hk.block q (blk_lt h1) (hd.off h1 (by decide))).trans h1, h2, h3.kept fun k cs hc => hk.block k (blk_lt hc) (hd.off hc (by decide)), h4, h5⟩
theorem RefAt.below {w w' : World} {q n : Nat} {s : St} {m : Nat} (h : RefAt w q n s m) (hb : Below w.heap.size w w') : RefAt w' q n s m := by
  obtain ⟨d, sv, ws, h1, h2, h3, h4, h5⟩ := h
  exact ⟨d, sv, ws, h1.below hb, h2, h3.below hb, h4, h5⟩
/-- A whole disk stored. -/
theorem wpList_putD {ops : Array Oper} {rest : List Oper} {o : Oper} {a : Act} {w : World} {Q : Exit → Act → World → Prop} (d d' : DV) (s s' : Value) (hb : d.r.b.length = 64) (hb' : d'.r.b.length = 64) (hs : s'.oneCell' = true) (g : Nat) (p y : Operand)
    (hD : DAt w g d s) (hgd : o.guard = none) (ho : o.op = .store 49 p y) (hp : a.eval p = .pointer (some ⟨g, 0, none⟩)) (hy : a.eval y = .agg (d'.cells s').toArray)
    (h : ∀ X, DAt X g d' s' → w.grownBy X (some g) → wpList Try.prog ops Q rest (a.put o.dst undef) X) : wpList Try.prog ops Q (o :: rest) a w := by
  refine wpList_store_all hgd 49 p y ho g (d'.cells s') hp hy 49 (d.cells s) hD (sizeD d' s' hb') (by rw [d.len s hb, d'.len s' hb']) (d'.one s' hs) ?_
  exact h _ (setRow_heap _ _ _ _ _ _ hD) ⟨rfl, rfl, rfl, by simp, fun k _ hk => setRow_other w g k _ (fun e => hk (by rw [e]))⟩
theorem Mine.grown {B : Nat} {w0 w X : World} {g bb : Nat} {fu : Value} {n : Nat} {s : St} (h : Mine B w0 w g bb fu n s) {k : Nat} {cs : Array Value} {t : TypeId} (hk : w.heap[k]? = some (.cells cs t (0, 0))) (hB : B ≤ k)
    (ht : t ≠ 62 ∧ t ≠ 64 ∧ t ≠ 3 ∧ t ≠ 66) (hg : w.grownBy X (some k)) : Mine B w0 X g bb fu n s := by
  refine ⟨h.disk.same fun q cq tq hq htq => ?_, h.below.grown hg h.size (fun q hq => by injection hq with hq; omega), Nat.le_trans h.size hg.size, h.hg, h.hbb, h.hfu⟩
  refine hg.block q (blk_lt hq) (fun e => ?_)
  have : t ≠ tq := by
    rintro rfl
    obtain ⟨h1, h2, h3, h4⟩ := ht
    rcases htq with h | h | h | h <;> contradiction
  exact types_ne hk hq this (Option.some.inj e).symm

/-- How many of the first j blocks are unlike. -/
def unlikeB (a b : List UInt8) : Nat → Nat
  | 0 => 0
  | j + 1 => unlikeB a b j + (if blockAt a j = blockAt b j then 0 else 1)
theorem unlike_le (a b : List UInt8) (k : Nat) (h : ∀ j, j < 8 → j ≠ k → blockAt a j = blockAt b j) : ∀ j, j ≤ 8 → unlikeB a b j ≤ if k < j then 1 else 0
  | 0, _ => by simp [unlikeB]
  | j + 1, hj => by
    have ih := unlike_le a b k h j (by omega)
    unfold unlikeB
    by_cases e : j = k
    · subst e
      rw [if_neg (Nat.lt_irrefl _)] at ih
      rw [if_pos (Nat.lt_succ_self _)]
      split <;> omega
    · rw [if_pos (h j (by omega) e)]
      split at ih <;> split <;> omega
theorem unlike_zero (a : List UInt8) : ∀ j, unlikeB a a j = 0
  | 0 => rfl
  | j + 1 => by unfold unlikeB; rw [unlike_zero a j, if_pos rfl]
theorem crash_unlike (s : St) (torn : Int) (hb : s.bs.length = 8 * 64) (hc : ∀ k x, s.c = some (k, x) → k < 8 ∧ x.length = 64) : unlikeB s.bs (crashBs s torn) 8 ≤ 1 ∧ (unlikeB s.bs (crashBs s torn) 8 ≠ 0 → s.c.isSome = true) := by
  cases hs : s.c with
  | none =>
    have : crashBs s torn = s.bs := by unfold crashBs; rw [hs]
    rw [this, unlike_zero]
    exact ⟨by omega, fun h => absurd rfl h⟩
  | some kx =>
    obtain ⟨k, x⟩ := kx
    obtain ⟨hk, hx⟩ := hc k x hs
    refine ⟨?_, fun _ => rfl⟩
    have : crashBs s torn = (if 0 < torn then layAt s.bs k (x.take (min torn 64).toNat) else s.bs) := by unfold crashBs; rw [hs]
    rw [this]
    have hle := unlike_le s.bs (if 0 < torn then layAt s.bs k (x.take (min torn 64).toNat) else s.bs) k (fun j hj hjk => by
      split
      · rw [blockAt_part _ 8 k j _ hb hk hj (by rw [List.length_take]; omega), if_neg hjk]
      · rfl) 8 (Nat.le_refl _)
    rw [if_pos hk] at hle
    exact hle

theorem txt_eq (a b : List UInt8) (j : Nat) : (blockAt a j = blockAt b j) ↔ txt a j = txt b j := by
  unfold txt
  constructor
  · intro h; rw [h]
  · intro h
    injection h with h
    simpa using congrArg Array.toList h

theorem txt_ne {a b : ByteArray} (h : ¬ a = b) : (a.toList == b.toList) = false := by
  rw [ByteArray.toList_eq, ByteArray.toList_eq, beq_eq_false_iff_ne]
  exact fun e => h (by cases a; cases b; congr 1; exact Array.ext' e)
set_option maxRecDepth 100000 in
set_option maxHeartbeats 4000000 in
theorem crashes6_few (pl : Option Addr) (l : List ActV) (cl F : Nat) (torn : Int) (w : World) (hL : ActsAt w pl l) (hf : fewB l = true) (hF : F < 256) :
    Calls Try.prog 5 #[.slice pl l.length cl, .int .u8 F, .int .i64 torn] w fun e w' => e = .returned (.bool true) ∧ Below w.heap.size w w' := by
  have h0 := awake6_any w
  have HL := Lib.hid hL
  have HF := Lib.hid hf
  have h40 : l.length ≤ 40 := by
    unfold fewB at hf
    simp at hf
    exact hf.2
  clear hL
  go_enter Try.func5, Try.ntmps5
  go_wp2_with fail
  refine h0.mono ?_
  rintro e w1 ⟨rfl, hb1⟩
  have h1 := few_any pl l cl w1 (by unfold maxLen; omega) (fun i x hx => let ⟨a, h1, h2⟩ := HL.out i x hx; ⟨a, h1, h2.below hb1⟩)
  rw [hf] at h1
  clear h0 hf
  go_wp2_with fail
  refine h1.mono ?_
  rintro e w2 ⟨rfl, hb2⟩
  have hB2 : Below w.heap.size w w2 := hb1.trans (hb2.mono hb1.size)
  have h2 := mine_new 8 w2 (by omega) (by omega) w.heap.size w hB2 hB2.size
  clear h1
  go_wp2_with fail
  refine h2.mono ?_
  rintro e w3 ⟨g, bb, rfl, hm3, hb3, _, _⟩
  change Mine _ _ _ _ _ _ _ (zeroS 8) at hm3
  have h3 := refNew_yes 8 (by omega) (by omega) w3
  have hz := zero_D
  clear h2
  go_wp2_with fail
  refine h3.mono ?_
  rintro e w4 ⟨rfl, hb4⟩
  have hm4 := hm3.later hb4
  clear h3
  go_wp2_with (refine store_newD 8 rfl (.tmp 9) (.tmp 34) rfl rfl rfl ?_; refine Hid.out ?_)
  refine Lib.hid ?_
  have hbn : Below w4.heap.size w4 (w4.alloc (.cells (ND 8) 49)) := (Below.refl _ w4).alloc (Nat.le_refl _) _
  have hm5 := hm4.later hbn
  have hD5 : DAt (w4.alloc (.cells (ND 8) 49)) w4.heap.size (newD 8) (.slice none 0 0) := heap_alloc_new _ _
  have hL5 : LAt (w4.alloc (.cells (ND 8) 49)) (.slice none 0 0) [] := World.ownsRow_nil _ _ _ _
  generalize w4.alloc (.cells (ND 8) 49) = w5 at hm5 hD5 hL5 ⊢
  have hq4 := hm4.size
  obtain ⟨q, hq⟩ : ∃ q, q = w4.heap.size := ⟨_, rfl⟩
  rw [← hq] at hD5 hq4
  rw [← hq]
  have h5 := hm5.arm (F : Int)
  rw [arm_zeroC, show errV 0 = .nilIface from rfl] at h5
  have HD5 := Lib.hid hD5
  have HL5 := Lib.hid hL5
  clear hz hbn hm4 hm3 hD5 hL5 hq
  go_wp2_with fail
  refine h5.mono ?_
  rintro e w6 ⟨rfl, ⟨fu, hm6⟩, hk6⟩
  have hD6 : DAt w6 q (newD 8) (.slice none 0 0) := (hk6.block q (blk_lt HD5.out) (hm5.disk.off HD5.out (by decide))).trans HD5.out
  have h6 := refArm_yes (newD 8) (.slice none 0 0) (by simp [newD, noneW]) rfl F rfl w6
  have hrel : Rel 8 (armS (zeroS 8) F) { newD 8 with fuse := F } [] := (rel_new 8).arm F rfl
  generalize hC : (newD 8).cells (.slice none 0 0) = C at h6
  have hkk : ∀ j v, C[j]? = some v → w6.cell? ⟨q, 0 + j, none⟩ = some v := fun j v hv => by rw [Nat.zero_add, hD6.cell, hC]; exact hv
  have h71 : (Try.prog.info? 49).map (·.size) = some C.length := by rw [← hC]; exact sizeNewD 8
  have HKK := Lib.hid hkk
  have H71 := Lib.hid h71
  have HD6 := Lib.hid hD6
  have HREL := Lib.hid hrel
  have HC := Lib.hid hC
  clear h5 hkk h71 hD6 hrel hC
  go_wp2_with (refine wpList_load_at rfl 49 (.tmp 9) rfl q 0 rfl C _ HKK.out Try.underlying49 rfl H71.out ?_)
  refine h6.mono ?_
  rintro e w7 ⟨rfl, hb7⟩
  have hm7 := hm6.later hb7
  have hD7 := HD6.out.below hb7
  have HD7 := Lib.hid hD7
  clear h6 hD7 HD6 HKK
  generalize hC2 : ({ newD 8 with fuse := F } : DV).cells (.slice none 0 0) = C2
  have HC2 := Lib.hid hC2
  clear hC2
  go_wp2_with (refine wpList_putD (newD 8) { newD 8 with fuse := F } (.slice none 0 0) (.slice none 0 0) (by simp [newD, noneW]) (by simp [newD, noneW]) rfl q (.tmp 9) (.tmp 54) HD7.out rfl rfl rfl (by rw [HC2.out]; rfl) ?_; refine Hid.out ?_)
  refine Lib.hid ?_
  intro X hX hgX
  have hmX := hm7.grown HD7.out hq4 (by decide) hgX
  have hRX : RefAt X q 8 (actsS (armS (zeroS 8) F) (l.take 0)) 0 := by
    refine ⟨_, _, [], hX, rfl, World.ownsRow_nil _ _ _ _, ?_, Nat.le_refl _⟩
    exact HREL.out
  clear hX hgX hm7 hm6 hm5 HD7 HREL HC2 HC H71
  go_wp2_with fail
  go_loopw [58] (fun i wr => ∃ j : Nat, j ≤ l.length ∧ i = .int .i64 j ∧ Mine w.heap.size w wr g bb fu 8 (actsS (armS (zeroS 8) F) (l.take j)) ∧ Hid (RefAt wr q 8 (actsS (armS (zeroS 8) F) (l.take j)) j)) (fun i _ => l.length - (intOf i).toNat)
  case atStart => exact ⟨0, Nat.zero_le _, rfl, hmX, Lib.hid hRX⟩
  case round =>
    obtain ⟨j, hj, rfl, hm, hR⟩ := hrel
    by_cases hlt : j < l.length
    · obtain ⟨x, hx⟩ : ∃ x, l[j]? = some x := ⟨_, List.getElem?_eq_getElem hlt⟩
      obtain ⟨a, rfl, ha⟩ := HL.out j x hx
      have ha' := ha.below hm.below
      have c0 := ha'.k
      have c1 := ha'.n
      obtain ⟨p, cp, c2w, hp⟩ := ha.b
      have c2 := (hm.below.cell (World.block_lt_of_cell? w _ c2w)).trans c2w
      have hgood := (good_acts (l.take j) (good_armed 8 F hF)).ok (by rw [List.length_take]; omega)
      have hbA : Below wr.heap.size wr (wr.alloc (.cells #[.int .u8 x.k, .int .i64 x.n, .slice p x.b.length cp] 32)) := (Below.refl _ wr).alloc (Nat.le_refl _) _
      have hmA := hm.later hbA
      have hRA := hR.out.below hbA
      have hAct : (wr.alloc (.cells #[.int .u8 x.k, .int .i64 x.n, .slice p x.b.length cp] 32)).heap[wr.heap.size]? = some (.cells #[.int .u8 x.k, .int .i64 x.n, .slice p x.b.length cp] 32 (0, 0)) := heap_alloc_new _ _
      have h4 := hmA.write hgood (by omega) x.n p x.b cp (fun _ => hp.below hmA.below)
      rw [← actsS_snoc (armS (zeroS 8) F) l j x hx] at h4
      have H4 := Lib.hid h4
      have HG := Lib.hid hgood
      have HA := Lib.hid hAct
      have HRA := Lib.hid hRA
      have HP := Lib.hid hp
      have hsn := actsS_snoc (armS (zeroS 8) F) l j x hx
      have HSN := Lib.hid hsn
      clear h4 hx ha ha' hgood hAct hRA hp c2w hsn hR
      go_wp2_with fail
      refine H4.out.mono ?_
      rintro e w4' ⟨rfl, hm4, hk4⟩
      have hAct4 := (hk4.block wr.heap.size (blk_lt HA.out) (hmA.disk.off HA.out (by decide))).trans HA.out
      have k1 : w4'.cell? ⟨wr.heap.size, 1, none⟩ = some (.int .i64 x.n) := by rw [blk_cell hAct4]; rfl
      have k2 : w4'.cell? ⟨wr.heap.size, 2, none⟩ = some (.slice p x.b.length cp) := by rw [blk_cell hAct4]; rfl
      obtain ⟨d, sv, ws, hd, hone, hls, hrel, hlen⟩ := HRA.out.only hmA.disk hk4
      have h6 := refWrite_rel hrel HG.out sv hone (by omega) x.n p x.b cp w4' (HP.out.below hm4.below) hls
      rw [← HSN.out] at h6
      generalize hC : d.cells sv = C at h6
      have hkk : ∀ j v, C[j]? = some v → w4'.cell? ⟨q, 0 + j, none⟩ = some v := fun j v hv => by rw [Nat.zero_add, hd.cell, hC]; exact hv
      have h71 : (Try.prog.info? 49).map (·.size) = some C.length := by rw [← hC]; exact sizeD d sv hrel.rb
      have HKK := Lib.hid hkk
      have H71 := Lib.hid h71
      have HD := Lib.hid hd
      have HREL := Lib.hid hrel
      have H6 := Lib.hid h6
      clear h6 hkk h71 hd hrel hC H4 HA HRA hls hone hAct4 hk4 hmA hbA hm
      go_wp2_with (refine wpList_load_at rfl 49 (.tmp 9) rfl q 0 rfl C _ HKK.out Try.underlying49 rfl H71.out ?_)
      refine H6.out.mono ?_
      rintro e w7 ⟨d', sv', ws', rfl, hone', hls', hrel', hlen', hb7⟩
      have hm7 := hm4.later hb7
      have hD7 := HD.out.below hb7
      have HD7 := Lib.hid hD7
      have HREL' := Lib.hid hrel'
      have HLS' := Lib.hid hls'
      clear H6 hD7 HD HKK hls' hrel' hm4
      generalize hC2 : d'.cells sv' = C2
      have HC2 := Lib.hid hC2
      clear hC2
      go_wp2_with (refine wpList_putD d d' sv sv' HREL.out.rb HREL'.out.rb hone' q (.tmp 9) (.tmp 75) HD7.out rfl rfl rfl (by rw [HC2.out]; rfl) ?_; refine Hid.out ?_)
      refine Lib.hid ?_
      intro X2 hX2 hgX2
      have hmX2 := hm7.grown HD7.out hq4 (by decide) hgX2
      have hRX2 : Hid (RefAt X2 q 8 (actsS (armS (zeroS 8) F) (l.take (j + 1))) (j + 1)) :=
        Lib.hid ⟨d', sv', ws', hX2, hone', HLS'.out.kept fun k cs hc => hgX2.block k (blk_lt hc) (fun e => types_ne hc HD7.out (by decide) (Option.some.inj e)), HREL'.out, by omega⟩
      clear hX2 hgX2 hm7 HD7 HREL' HLS' HREL HC2 k1 k2
      go_wp2_with fail
      go_roundw
      case rel => exact ⟨j + 1, by omega, by go_num, hmX2, hRX2⟩
      case measure => simp [intOf]; omega
    · have hjl : j = l.length := by omega
      subst hjl
      rw [List.take_length] at hm hR
      have hgood := good_acts l (good_armed 8 F hF)
      obtain ⟨s1, hs1⟩ : ∃ s, s = actsS (armS (zeroS 8) F) l := ⟨_, rfl⟩
      rw [← hs1] at hm hgood hR
      have HG := Lib.hid hgood
      have h8 := hm.crash (by omega) (by omega) (fun k x h => hgood.c k x h) torn
      clear hgood hs1 hmX hRX
      have H8 := Lib.hid h8
      clear h8
      go_wp2_with fail
      refine H8.out.mono ?_
      rintro e w8 ⟨gc, bc, rfl, hmc, hb8, _, _⟩
      have hm8 := hm.later hb8
      have hR8 := hR.out.below hb8
      clear H8
      obtain ⟨d, sv, ws, hd, hone, hls, hrel, hlen⟩ := hR8
      have h9 := refCrash_any d sv ws hrel.rb hone torn (by omega) w8 hls
      have hrb := hrel.rb
      generalize hC : d.cells sv = C at h9
      have hkk : ∀ j v, C[j]? = some v → w8.cell? ⟨q, 0 + j, none⟩ = some v := fun j v hv => by rw [Nat.zero_add, hd.cell, hC]; exact hv
      have h71 : (Try.prog.info? 49).map (·.size) = some C.length := by rw [← hC]; exact sizeD d sv hrb
      have HKK := Lib.hid hkk
      have H71 := Lib.hid h71
      have HD := Lib.hid hd
      have HREL := Lib.hid hrel
      have HC := Lib.hid hC
      have HLS := Lib.hid hls
      clear hkk h71 hd hrel hC hls hR hm
      go_wp2_with (refine wpList_load_at rfl 49 (.tmp 9) rfl q 0 rfl C _ HKK.out Try.underlying49 rfl H71.out ?_)
      refine h9.mono ?_
      rintro e w9 ⟨s9, rfl, hone9, hls9, hb9⟩
      have htl : (tornW d torn).length ≤ 1 := by unfold tornW; split <;> simp
      have hmc9 := hmc.later hb9
      have h10 := is6_any hmc9.disk (newD d.n) s9 _ (HREL.out.crash torn) (by omega) (by rw [List.length_append]; omega) hls9
      have HLS9 := Lib.hid hls9
      clear h9 hmc hls9
      generalize hY : (DV.cells (newD d.n) s9).toArray = Y at h10 ⊢
      clear hY
      go_wp2_with fail
      refine h10.mono ?_
      rintro e w10 ⟨rfl, hb10⟩
      have hb810 := hb9.trans (hb10.mono hb9.size)
      have hD10 := HD.out.below hb810
      have hm10 := hm8.later hb810
      have hmc10 := hmc9.later hb10
      have h11 := is6_any hm10.disk d sv ws HREL.out (by omega) (by omega) (HLS.out.below hb810)
      rw [HC.out] at h11
      have hkk : ∀ j v, C[j]? = some v → w10.cell? ⟨q, 0 + j, none⟩ = some v := fun j v hv => by rw [Nat.zero_add, hD10.cell, HC.out]; exact hv
      have HKK2 := Lib.hid hkk
      clear h10 hkk hmc9 hm8 HKK HD hD10 HLS9 HLS
      go_wp2_with (refine BigFrame.wpList_want rfl fun _ hK => wp_load_at 49 (.tmp 9) rfl q 0 rfl C _ HKK2.out Try.underlying49 rfl H71.out (hK _ _ ?_))
      refine h11.mono ?_
      rintro e w11 ⟨rfl, hb11⟩
      have hm11 := hm10.later hb11
      have hmc11 := hmc10.later hb11
      have h12 := hmc11.disk.dead
      rw [show (crashS s1 torn).c.isSome = false from rfl] at h12
      clear h11 hm10 hmc10 HKK2 H71 HC
      go_wp2_with fail
      refine h12.mono ?_
      rintro e w12 ⟨rfl, rfl⟩
      clear h12
      have hcu := crash_unlike s1 torn hm11.blen (fun k x h => ⟨HG.out.c k x h, by have h1 := (HREL.out.cut k x h).1; rw [h1] at hrb; exact hrb⟩)
      clear HREL hrb
      go_wp2_with fail
      have HCU := Lib.hid hcu
      obtain ⟨wx, hwx⟩ : ∃ wx, wx = wr := ⟨_, rfl⟩
      subst hwx
      clear hcu
      try clear hm8
      try clear hb8
      try clear hb9
      try clear hb10
      try clear hb11
      try clear hb810
      have hcl : (crashBs s1 torn).length = 8 * 64 := hmc11.blen
      have hsl : s1.bs.length = 8 * 64 := hm11.blen
      have HCL := Lib.hid hcl
      have HSL := Lib.hid hsl
      clear hcl hsl
      go_loopw [97, 14] (fun i u wq => ∃ j : Nat, j ≤ 8 ∧ i = .int .i64 j ∧ u = .int .i64 (unlikeB s1.bs (crashBs s1 torn) j) ∧ unlikeB s1.bs (crashBs s1 torn) j ≤ j ∧ Mine w.heap.size w wq g bb fu 8 s1 ∧ Mine w.heap.size w wq gc bc (.pointer none) 8 (crashS s1 torn)) (fun i u _ => 8 - (intOf i).toNat)
      case atStart => exact ⟨0, Nat.zero_le _, rfl, rfl, Nat.le_refl _, hm11, hmc11⟩
      case round =>
        obtain ⟨j, hj8, rfl, rfl, hul, hmq, hmcq⟩ := hrel
        by_cases hlt8 : j < 8
        · have h13 := read_any hmq.disk j hlt8
          go_wp2_with fail
          refine h13.mono ?_
          rintro e w13 ⟨b1, cap1, sp1, rfl, hbj, hcap, hx1, hB1⟩
          have hm13 := hmq.later hB1
          have hmc13 := hmcq.later hB1
          have h14 := read_any hmc13.disk j hlt8
          clear h13
          go_wp2_with fail
          refine h14.mono ?_
          rintro e w14 ⟨b2, cap2, sp2, rfl, hbj2, hcap2, hx2, hB2⟩
          have hm14 := hm13.later hB2
          have hmc14 := hmc13.later hB2
          have hst1 := str_block cap1 j (len_blockAt s1.bs j 8 HSL.out hlt8) ((hB2.block b1 (blk_lt hx1)).trans hx1)
          have hst2 := str_block cap2 j (len_blockAt (crashBs s1 torn) j 8 HCL.out hlt8) hx2
          have htx := txt_eq s1.bs (crashBs s1 torn) j
          have hun : unlikeB s1.bs (crashBs s1 torn) (j + 1) = unlikeB s1.bs (crashBs s1 torn) j + (if blockAt s1.bs j = blockAt (crashBs s1 torn) j then 0 else 1) := rfl
          clear h14 hx1 hx2 hmq hmcq hm13 hmc13
          by_cases he : blockAt s1.bs j = blockAt (crashBs s1 torn) j
          · rw [if_pos he] at hun
            rw [htx.1 he] at hst1
            have HUN := Lib.hid hun
            clear htx he hun
            go_wp2_with fail
            go_roundw
            case rel => exact ⟨j + 1, by omega, by go_num, by rw [HUN.out]; go_num, by rw [HUN.out]; omega, hm14, hmc14⟩
            case measure => simp [intOf]; omega
          · rw [if_neg he] at hun
            have hne : ((txt s1.bs j).toList == (txt (crashBs s1 torn) j).toList) = false := txt_ne (fun e => he (htx.2 e))
            have HUN := Lib.hid hun
            clear htx he hun
            go_wp2_with fail
            go_roundw
            case rel => exact ⟨j + 1, by omega, by go_num, by rw [HUN.out]; go_num, by rw [HUN.out]; omega, hm14, hmc14⟩
            case measure => simp [intOf]; omega
        · have hj8' : j = 8 := by omega
          subst hj8'
          obtain ⟨hu1, hu2⟩ := HCU.out
          have hdd := hmq.disk.dead
          have hcs1 : Calm (crashS s1 torn) := ⟨rfl, rfl⟩
          have hst0 : StOk (crashS s1 torn) := ⟨by show (0 : Int) ≤ 0; omega, by show (0 : Int) < 1000000; omega, fun k e => by cases e⟩
          have hA := bytes_lit wr [120] (1, 2)
          have hbA : Below wr.heap.size wr (wr.alloc (.cells (bytesV [120]).toArray 5 (1, 2))) := (Below.refl _ wr).alloc (Nat.le_refl _) _
          have h15 := (hmcq.later hbA).write hst0 (by omega) 0 (some ⟨wr.heap.size, 0, none⟩) [120] 1 (fun _ => hA)
          rw [show wrC 8 (crashS s1 torn) 0 [120] = 0 from hcs1.code 8 0 (by omega) [120] (by simp), show errV 0 = .nilIface from rfl] at h15
          have H15 := Lib.hid h15
          clear h15 hcs1 hst0 hA HCU
          have kc := fun (w : World) (C : Array Value) (n c : Nat) => Lib.run_convert_bytes_const (P := Try.prog) w 22 5 C n c Try.underlying22 Try.underlying5
          generalize unlikeB s1.bs (crashBs s1 torn) 8 = u at hu1 hu2
          by_cases hu0 : u = 0
          · subst hu0
            go_wp2_with fail
            refine H15.out.mono ?_
            rintro e w15 ⟨rfl, hm15, _⟩
            clear H15
            go_wp2_with fail
            go_ret
            exact ⟨rfl, hm15.below⟩
          · have hu : u = 1 := by omega
            subst hu
            rw [hu2 hu0] at hdd
            go_wp2_with fail
            refine hdd.mono ?_
            rintro e w15 ⟨rfl, rfl⟩
            go_wp2_with fail
            refine H15.out.mono ?_
            rintro e w16 ⟨rfl, hm16, _⟩
            clear H15
            go_wp2_with fail
            go_ret
            exact ⟨rfl, hm16.below⟩

set_option maxRecDepth 100000 in
set_option maxHeartbeats 4000000 in
theorem crashes6_any (pl : Option Addr) (l : List ActV) (cl F : Nat) (torn : Int) (w : World) (hl : l.length ≤ maxLen) (hL : ActsAt w pl l) (hF : F < 256) :
    Calls Try.prog 5 #[.slice pl l.length cl, .int .u8 F, .int .i64 torn] w fun e w' => e = .returned (.bool true) ∧ Below w.heap.size w w' := by
  cases hf : fewB l with
  | true => exact crashes6_few pl l cl F torn w hL hf hF
  | false =>
    have h0 := awake6_any w
    have HL := Lib.hid hL
    have Hl := Lib.hid hl
    clear hL hl
    go_enter Try.func5, Try.ntmps5
    go_wp2_with fail
    refine h0.mono ?_
    rintro e w1 ⟨rfl, hb1⟩
    have h1 := few_any pl l cl w1 Hl.out (fun i x hx => let ⟨a, h1, h2⟩ := HL.out i x hx; ⟨a, h1, h2.below hb1⟩)
    rw [hf] at h1
    clear h0 hf
    go_wp2_with fail
    refine h1.mono ?_
    rintro e w2 ⟨rfl, hb2⟩
    have h2 := awake6_any w2
    clear h1
    go_wp2_with fail
    refine h2.mono ?_
    rintro e w3 ⟨rfl, hb3⟩
    clear h2
    go_wp2_with fail
    go_ret
    have hB2 : Below w.heap.size w w2 := hb1.trans (hb2.mono hb1.size)
    exact ⟨rfl, hB2.trans (hb3.mono hB2.size)⟩

end Go.Proofs.Ytlbfjnmhnpioaaa
