/-
  The document's disk in a block, beside the disk.
-/
import Derived.Test.YtlbfjnmhnpioaaaDoorRel06
namespace Go.Proofs.YtlbfjnmhnpioaaaDoor
open Go.RowKit
set_option maxRecDepth 100000
set_option linter.unusedVariables false
set_option linter.unusedSimpArgs false

/-- A disk of the document in a block, with its list: as the disk. -/
def RefAt (w : World) (q n : Nat) (s : St) (m : Nat) : Prop := ∃ d sv ws, DAt w q d sv ∧ sv.oneCell' = true ∧ LAt w sv ws ∧ Rel n s d ws ∧ ws.length ≤ m
theorem LAt.kept {w w' : World} {sv : Value} {ws : List WV} (h : LAt w sv ws) (hk : ∀ (k : Nat) (cs : Array Value), w.heap[k]? = some (.cells cs 33 (0, 0)) → w'.heap[k]? = w.heap[k]?) : LAt w' sv ws :=
  row_keep h fun k hk' => by
    obtain ⟨_, cur, hc⟩ := row_at h hk'
    exact hk k cur hc
theorem LAt.below {w w' : World} {sv : Value} {ws : List WV} (h : LAt w sv ws) (hb : Below w.heap.size w w') : LAt w' sv ws := h.kept fun k cs hc => hb.block k (blk_lt hc)
theorem RefAt.only {w w' : World} {q n g bb : Nat} {fu : Value} {s st : St} {m nn : Nat} (h : RefAt w q n s m) (hd : Disk w g bb fu nn st) (hk : Only (footD g bb fu) w w') : RefAt w' q n s m := by
  obtain ⟨d, sv, ws, h1, h2, h3, h4, h5⟩ := h
  exact ⟨d, sv, ws, (hk.block q (blk_lt h1) (hd.off h1 (by decide))).trans h1, h2, h3.kept fun k cs hc => hk.block k (blk_lt hc) (hd.off hc (by decide)), h4, h5⟩
theorem RefAt.below {w w' : World} {q n : Nat} {s : St} {m : Nat} (h : RefAt w q n s m) (hb : Below w.heap.size w w') : RefAt w' q n s m := by
  obtain ⟨d, sv, ws, h1, h2, h3, h4, h5⟩ := h
  exact ⟨d, sv, ws, h1.below hb, h2, h3.below hb, h4, h5⟩
/-- A whole disk stored. -/
theorem wpList_putD {ops : Array Oper} {rest : List Oper} {o : Oper} {a : Act} {w : World} {Q : Exit → Act → World → Prop} (d d' : DV) (s s' : Value) (hb : d.r.b.length = 64) (hb' : d'.r.b.length = 64) (hs : s'.oneCell' = true) (g : Nat) (p y : Operand)
    (hD : DAt w g d s) (hgd : o.guard = none) (ho : o.op = .store 35 p y) (hp : a.eval p = .pointer (some ⟨g, 0, none⟩)) (hy : a.eval y = .agg (d'.cells s').toArray)
    (h : ∀ X, DAt X g d' s' → w.grownBy X (some g) → wpList Tryd.prog ops Q rest (a.put o.dst undef) X) : wpList Tryd.prog ops Q (o :: rest) a w := by
  refine wpList_store_all hgd 35 p y ho g (d'.cells s') hp hy 35 (d.cells s) hD (sizeD d' s' hb') (by rw [d.len s hb, d'.len s' hb']) (d'.one s' hs) ?_
  exact h _ (setRow_heap _ _ _ _ _ _ hD) ⟨rfl, rfl, rfl, by simp, fun k _ hk => setRow_other w g k _ (fun e => hk (by rw [e]))⟩
theorem Mine.grown {B : Nat} {w0 w X : World} {g bb : Nat} {fu : Value} {n : Nat} {s : St} (h : Mine B w0 w g bb fu n s) {k : Nat} {cs : Array Value} {t : TypeId} (hk : w.heap[k]? = some (.cells cs t (0, 0))) (hB : B ≤ k)
    (ht : t ≠ 59 ∧ t ≠ 64 ∧ t ≠ 3 ∧ t ≠ 66) (hg : w.grownBy X (some k)) : Mine B w0 X g bb fu n s := by
  refine ⟨h.disk.same fun q cq tq hq htq => ?_, h.below.grown hg h.size (fun q hq => by injection hq with hq; omega), Nat.le_trans h.size hg.size, h.hg, h.hbb, h.hfu⟩
  refine hg.block q (blk_lt hq) (fun e => ?_)
  have : t ≠ tq := by
    rintro rfl
    obtain ⟨h1, h2, h3, h4⟩ := ht
    rcases htq with h | h | h | h <;> contradiction
  exact types_ne hk hq this (Option.some.inj e).symm

end Go.Proofs.YtlbfjnmhnpioaaaDoor
