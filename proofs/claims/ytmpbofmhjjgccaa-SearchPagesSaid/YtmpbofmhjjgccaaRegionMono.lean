/-
  A region that draws its order, by what each operation leaves behind: a property of the values so far and of the world, that later operations keep.
-/
import Derived.Test.YtmpbofmhjjgccaaRegionInv
namespace Go.Proofs.Ytmpbofmhjjgccaa
open Go.RowKit
set_option linter.unusedVariables false
set_option linter.unusedSimpArgs false
section
variable {P : Program} {ops : Array Oper} {Q : Exit → Act → World → Prop}
/-- What is listed is listed with all that it waits for. -/
def Shut (ops : Array Oper) (L : Nat → Bool) : Prop := ∀ (i : Nat) (o : Oper), ops[i]? = some o → L i = true → ∀ e ∈ o.after, Region.binds .any e = true → L e.on = true
def updV (i : Nat) (v : Value) (vs : Nat → Value) : Nat → Value := fun j => if j = i then v else vs j
theorem updV_self (i : Nat) (v : Value) (vs : Nat → Value) : updV i v vs i = v := if_pos rfl
theorem updV_ne {i j : Nat} (h : j ≠ i) (v : Value) (vs : Nat → Value) : updV i v vs j = vs j := if_neg h
theorem ne_of_listed {L : Nat → Bool} {i j : Nat} (hj : L j = true) (hi : L i = false) : j ≠ i := by rintro rfl; rw [hj] at hi; cases hi

theorem wp_region_mono {id : Nat} {a : Act} {w : World} (hm : P.follows .mixedOrders = true) (ds : List Nat) (hn : ds.Nodup) (hsz : ∀ t ∈ ds, t < a.tmps.size) (B : World → Prop) (R : Nat → World → World → Prop) (Pr : Nat → (Nat → Value) → World → Prop)
    (hdst : ∀ (i : Nat) (o : Oper), ops[i]? = some o → o.dst = ds[i]?)
    (hgd : ∀ vs w (i : Nat) (o : Oper) (j : Nat) (b : Bool), ops[i]? = some o → o.guard = some (j, b) → (Pr j vs w → j < ds.length ∧ vs j = .bool b) ∧ j < ops.size ∧ (∃ e ∈ o.after, Region.binds .any e = true ∧ e.on = j))
    (hback : ∀ (i : Nat) (o : Oper), ops[i]? = some o → ∀ e ∈ o.after, e.on < i)
    (hB0 : B w.drew) (hB : ∀ i w w', B w → R i w w' → B w')
    (hmono : ∀ L vs w v w' i j, Shut ops L → L j = true → L i = false → j < ops.size → i < ops.size → B w → Pr j vs w → R i w w' → Pr j (updV i v vs) w')
    (hstep : ∀ L vs w, Shut ops L → B w → (∀ j, L j = true → Pr j vs w) → ∀ i o, ops[i]? = some o → L i = false → (∀ e ∈ o.after, Region.binds .any e = true → L e.on = true) →
      ∀ K : Act → World → Prop, (∀ v w', R i w w' → Pr i (updV i v vs) w' → K ((frameAt a ds vs).put o.dst v) w') → o.wp P (frameAt a ds vs) w K Q)
    (hend : ∀ vs w, B w → (∀ i, i < ops.size → Pr i vs w) → Q .normal (frameAt a ds vs) w) : (Code.region id ops true).wp P Q a w := by
  refine wp_region_frameG hm ds hn hsz (fun L vs w => Shut ops L ∧ B w ∧ (∀ j, L j = true → j < ops.size ∧ Pr j vs w)) hdst ?_ hback ⟨fun i o _ h => (by cases h), hB0, fun j h => (by cases h)⟩ ?_ ?_
  · rintro L vs w ⟨hS, hBw, hI⟩ i o j b ho hg hL haf
    obtain ⟨h1, h2, e, he, hb, rfl⟩ := hgd vs w i o j b ho hg
    obtain ⟨h3, h4⟩ := h1 (hI _ (haf e he hb)).2
    exact ⟨h3, h2, h4⟩
  · rintro L vs w ⟨hS, hBw, hI⟩ i o ho hL haf K hK
    have hi : i < ops.size := (Array.getElem?_eq_some_iff.1 ho).1
    refine hstep L vs w hS hBw (fun j hj => (hI j hj).2) i o ho hL haf K fun v w' hR hP => hK v w' ⟨?_, hB i w w' hBw hR, ?_⟩
    · intro k o' ho' hk e he hb
      have hk' : L k = true ∨ k = i := by simpa using hk
      rcases hk' with hk' | rfl
      · simp [hS k o' ho' hk' e he hb]
      · rw [ho] at ho'
        injection ho' with ho'
        subst ho'
        simp [haf e he hb]
    · intro j hj
      have hj' : L j = true ∨ j = i := by simpa using hj
      rcases hj' with hj' | rfl
      · obtain ⟨h1, h2⟩ := hI j hj'
        exact ⟨h1, hmono L vs w v w' i j hS hj' hL h1 hi hBw h2 hR⟩
      · exact ⟨hi, hP⟩
  · rintro L vs w ⟨hS, hBw, hI⟩ hall
    exact hend vs w hBw fun i hi => (hI i (hall i hi)).2
end
end Go.Proofs.Ytmpbofmhjjgccaa
