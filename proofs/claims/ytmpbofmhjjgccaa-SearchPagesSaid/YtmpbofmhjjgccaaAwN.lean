/-
  Steps in a region that draws its order.
-/
import Derived.Test.YtmpbofmhjjgccaaAwM
namespace Go.Proofs.Ytmpbofmhjjgccaa
open Go.RowKit
set_option linter.unusedVariables false
set_option linter.unusedSimpArgs false

section
variable {P : Program} {n : Nat} {ops : Array Oper} {σ : St}
theorem awp_draw {K : AEx → Fr → St → Prop} {F : Fr} {id : Nat} (h : ∀ K' : Fr → St → Prop, Kont (∀ F' σ', K .normal F' σ' → K' F' σ') → adraw P n ops K' F σ) : awp P n (.region id ops true) K F σ := h (fun F' σ' => K .normal F' σ') ⟨fun _ _ h => h⟩
theorem dq_pu {K : Fr → Prop} {i : Nat} {r : List (Nat × Bool)} {F : Fr} {dst : Option Tmp} {op : Op} {ty : TypeId} {pos : String} {after : Array Edge} (ho : ops[i]? = some ⟨dst, op, ty, pos, after, none⟩)
    (h : ∃ d, (∀ (τ : St) (K' : D → St → Prop), Kont (∀ d' τ', D.Le d' d → τ.le τ' → K' d' τ') → aop P ty F τ K' op) ∧ (aput n F dst d (dq P n ops σ K r))) : dq P n ops σ K ((i, true) :: r) F := by
  obtain ⟨d, h, hn⟩ := h
  simp only [dq, ho, wo]
  exact ⟨d, fun τ _ => h τ _ ⟨fun d' τ' h1 h2 => ⟨h1, h2⟩⟩, hn⟩
theorem dq_rd {K : Fr → Prop} {i : Nat} {r : List (Nat × Bool)} {F : Fr} {dst : Option Tmp} {op : Op} {ty : TypeId} {pos : String} {after : Array Edge} (ho : ops[i]? = some ⟨dst, op, ty, pos, after, none⟩)
    (h : ∃ d, (∀ (e : St) (K' : D → St → Prop), Kont (∀ d' τ', D.Le d' d → (σ.ext e).le τ' → K' d' τ') → aop P ty F (σ.ext e) K' op) ∧ (aput n F dst d (dq P n ops σ K r))) : dq P n ops σ K ((i, false) :: r) F := by
  obtain ⟨d, h, hn⟩ := h
  simp only [dq, ho, wo]
  refine ⟨d, fun τ hτ => ?_, hn⟩
  have hl := hτ.resolve_left (by simp)
  have := h τ (fun d' τ' => D.Le d' d ∧ (σ.ext τ).le τ') ⟨fun d' τ' h1 h2 => ⟨h1, h2⟩⟩
  rwa [St.ext_of hl] at this
theorem dq_gT {K : Fr → Prop} {i : Nat} {pu : Bool} {r : List (Nat × Bool)} {F : Fr} {d : D} {dst : Option Tmp} {op : Op} {ty : TypeId} {pos : String} {after : Array Edge} {j t : Nat} {b : Bool} (ho : ops[i]? = some ⟨dst, op, ty, pos, after, some (j, b)⟩) (hj : dstOf ops j = some t) (hp : F t = .v (.bool b))
    (h : ∀ (e : St) (K' : D → St → Prop), Kont (∀ d' τ', D.Le d' d → e.le τ' → K' d' τ') → (pu = true ∨ ∃ e', e = σ.ext e') → aop P ty F e K' op) (hn : aput n F dst d (dq P n ops σ K r)) : dq P n ops σ K ((i, pu) :: r) F := by
  simp only [dq, ho, wo]
  refine ⟨d, ?_, hn⟩
  refine ⟨t, b, hj, hp, fun _ τ hτ => ?_, fun e => by cases b <;> cases e⟩
  exact h τ _ ⟨fun d' τ' h1 h2 => ⟨h1, h2⟩⟩ (by
    rcases hτ with h | h
    · exact .inl h
    · exact .inr ⟨τ, (St.ext_of h).symm⟩)
theorem dq_gTp {K : Fr → Prop} {i : Nat} {r : List (Nat × Bool)} {F : Fr} {dst : Option Tmp} {op : Op} {ty : TypeId} {pos : String} {after : Array Edge} {j t : Nat} {b : Bool} (ho : ops[i]? = some ⟨dst, op, ty, pos, after, some (j, b)⟩) (hj : dstOf ops j = some t) (hp : F t = .v (.bool b))
    (h : ∃ d, (∀ (τ : St) (K' : D → St → Prop), Kont (∀ d' τ', D.Le d' d → τ.le τ' → K' d' τ') → aop P ty F τ K' op) ∧ (aput n F dst d (dq P n ops σ K r))) : dq P n ops σ K ((i, true) :: r) F :=
  h.elim fun d hh => hh.elim fun h hn => dq_gT ho hj hp (fun e K' hK _ => h e K' hK) hn
theorem dq_gTr {K : Fr → Prop} {i : Nat} {r : List (Nat × Bool)} {F : Fr} {dst : Option Tmp} {op : Op} {ty : TypeId} {pos : String} {after : Array Edge} {j t : Nat} {b : Bool} (ho : ops[i]? = some ⟨dst, op, ty, pos, after, some (j, b)⟩) (hj : dstOf ops j = some t) (hp : F t = .v (.bool b))
    (h : ∃ d, (∀ (e : St) (K' : D → St → Prop), Kont (∀ d' τ', D.Le d' d → (σ.ext e).le τ' → K' d' τ') → aop P ty F (σ.ext e) K' op) ∧ (aput n F dst d (dq P n ops σ K r))) : dq P n ops σ K ((i, false) :: r) F :=
  h.elim fun d hh => hh.elim fun h hn => dq_gT ho hj hp (fun e K' hK he => by
    obtain ⟨e', rfl⟩ := he.resolve_left (by simp)
    exact h e' K' hK) hn
theorem dq_gF {K : Fr → Prop} {i : Nat} {pu : Bool} {r : List (Nat × Bool)} {F : Fr} {dst : Option Tmp} {op : Op} {ty : TypeId} {pos : String} {after : Array Edge} {j t : Nat} {b : Bool} (ho : ops[i]? = some ⟨dst, op, ty, pos, after, some (j, b)⟩) (hj : dstOf ops j = some t) (hp : F t = .v (.bool (!b)))
    (hn : aput n F dst .any (dq P n ops σ K r)) : dq P n ops σ K ((i, pu) :: r) F := by
  simp only [dq, ho, wo]
  exact ⟨.any, ⟨t, !b, hj, hp, (fun e => by cases b <;> cases e), (fun _ => rfl)⟩, hn⟩
theorem dq_nil {K : Fr → Prop} {F : Fr} (h : K F) : dq P n ops σ K [] F := h
theorem dtail_none {tl : List Nat} {K : Fr → St → Prop} {F : Fr} (h : aops P n ops K (opersOf ops tl) F σ) : dtail P n ops σ none tl K F := h
theorem dtail_alloc {i : Nat} {tl : List Nat} {K : Fr → St → Prop} {F : Fr} {t : Nat} {T ty : TypeId} {pos : String} {after : Array Edge} {g : Option (Nat × Bool)} {l : LyI} (ho : ops[i]? = some ⟨some t, .alloc T, ty, pos, after, g⟩) (ht : t < n) (hl : layOf P T = some l)
    (h : ∀ b, Fresh σ b → aops P n ops K (opersOf ops tl) (upd F t (.v (.pointer (some ⟨b, 0, none⟩)))) (σ.setBox b (some (T, l.zero.map .v)))) : dtail P n ops σ (some i) tl K F := by
  simp only [dtail, ho, wo, hl]
  exact ⟨ht, h⟩
theorem aops_idx {K1 : Fr → St → Prop} {F : Fr} {i : Nat} {r : List Nat} {dst : Option Tmp} {op : Op} {ty : TypeId} {pos : String} {after : Array Edge} (ho : ops[i]? = some ⟨dst, op, ty, pos, after, none⟩)
    (h : ∀ K' : D → St → Prop, Kont (∀ d σ', (aput n F dst d fun F' => aops P n ops K1 (opersOf ops r) F' σ') → K' d σ') → aop P ty F σ K' op) : aops P n ops K1 (opersOf ops (i :: r)) F σ := by
  rw [opersOf_cons ho]
  exact aops_cons h
theorem aops_end {K1 : Fr → St → Prop} {F : Fr} (h : K1 F σ) : aops P n ops K1 (opersOf ops []) F σ := h
end
attribute [simp] box_ext tip_ext Option.some_or Option.none_or Option.or_none
end Go.Proofs.Ytmpbofmhjjgccaa
