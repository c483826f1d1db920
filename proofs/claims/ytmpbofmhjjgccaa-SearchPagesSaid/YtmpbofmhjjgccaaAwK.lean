/-
  A region that draws its order, as it is reasoned about.
-/
import Derived.Test.YtmpbofmhjjgccaaAwJ
namespace Go.Proofs.Ytmpbofmhjjgccaa
open Go.RowKit
set_option linter.unusedVariables false
set_option linter.unusedSimpArgs false

section
variable {P : Program} {σ : St} {K : D → St → Prop} {ty : TypeId}
theorem map_ev {F F' : Fr} {l : List Operand} (h : ∀ x ∈ l, ev F x = ev F' x) : l.map (ev F) = l.map (ev F') := List.map_congr_left h
theorem parts_ev {F F' : Fr} {l : List (Nat × Operand)} (h : ∀ x ∈ l.map (·.2), ev F x = ev F' x) : (l.map fun x => (x.1, ev F x.2)) = l.map fun x => (x.1, ev F' x.2) :=
  List.map_congr_left fun x hx => by rw [h x.2 (List.mem_map.2 ⟨x, hx, rfl⟩)]
theorem obound_ev {F F' : Fr} {d : Nat} {x : Option Operand} (h : ∀ y, x = some y → ev F y = ev F' y) : obound F d x = obound F' d x := by
  cases x with
  | none => rfl
  | some y => simp only [obound, h y rfl]
theorem aop_congr {F F' : Fr} {op : Op} (h : ∀ x ∈ op.operands.toList, ev F x = ev F' x) (ha : aop P ty F σ K op) : aop P ty F' σ K op := by
  cases op with
  | move x => have e := h x (by simp [Op.operands]); simp only [aop, e] at *; exact ha
  | assign x => have e := h x (by simp [Op.operands]); simp only [aop, e] at *; exact ha
  | pick c x y => have e := h c (by simp [Op.operands]); have e1 := h x (by simp [Op.operands]); have e2 := h y (by simp [Op.operands]); simp only [aop, e, e1, e2] at *; exact ha
  | alloc t => exact ha
  | box t x => have e := h x (by simp [Op.operands]); simp only [aop, e] at *; exact ha
  | build t ps =>
    have e := parts_ev (F := F) (F' := F') (l := ps.toList) (fun x hx => h x (by simpa [Op.operands] using hx))
    simp only [aop, e] at *; exact ha
  | buildSlice t m ps =>
    have e := parts_ev (F := F) (F' := F') (l := ps.toList) (fun x hx => h x (by simpa [Op.operands] using hx))
    simp only [aop, e] at *; exact ha
  | load t x => have e := h x (by simp [Op.operands]); simp only [aop, e] at *; exact ha
  | store t x y => have e := h x (by simp [Op.operands]); have e1 := h y (by simp [Op.operands]); simp only [aop, e, e1] at *; exact ha
  | nilCheck x => have e := h x (by simp [Op.operands]); simp only [aop, e] at *; exact ha
  | binOp op t x y ty' => have e := h x (by simp [Op.operands]); have e1 := h y (by simp [Op.operands]); simp only [aop, e, e1] at *; exact ha
  | unOp op t x => have e := h x (by simp [Op.operands]); simp only [aop, e] at *; exact ha
  | makeInterface t x => have e := h x (by simp [Op.operands]); simp only [aop, e] at *; exact ha
  | makeFunc fn first caps =>
    have e := map_ev (F := F) (F' := F') (l := caps.toList) (fun x hx => h x (by simp [Op.operands]; right; simpa using hx))
    simp only [aop, e] at *; exact ha
  | slice t x lo hi mx =>
    have e := h x (by simp [Op.operands])
    have e1 : ∀ d, obound F d lo = obound F' d lo := fun d => obound_ev fun y hy => h y (by subst hy; simp [Op.operands])
    have e2 : ∀ d, obound F d hi = obound F' d hi := fun d => obound_ev fun y hy => h y (by subst hy; simp [Op.operands])
    have e3 : ∀ m, mx = some m → ev F m = ev F' m := fun m hm => h m (by subst hm; simp [Op.operands])
    simp only [aop, e] at ha ⊢
    cases hl : layOf P t with
    | none => rw [hl] at ha; exact ha
    | some l =>
      rw [hl] at ha
      simp only [wo] at ha ⊢
      cases hk : l.kd with
      | str =>
        simp only [hk] at ha ⊢
        cases hd : ev F' x with
        | v y =>
          simp only [hd] at ha ⊢
          cases y <;> first | exact ha | (simp only [e1, e2] at ha ⊢; exact ha)
        | _ => simp only [hd] at ha
      | slice e' =>
        simp only [hk] at ha ⊢
        cases hle : layOf P e' with
        | none => simp only [hle] at ha
        | some le =>
          simp only [hle] at ha ⊢
          cases hd : (ev F' x).list with
          | none => simp only [hd] at ha
          | some q =>
            obtain ⟨nl, tip, full, sz, ds⟩ := q
            cases mx with
            | none => simp only [hd, e1, e2] at ha ⊢; exact ha
            | some m => have e4 := e3 m rfl; simp only [hd, e1, e2, e4] at ha ⊢; exact ha
      | _ => simp only [hk] at ha
  | fieldAddr s x f => have e := h x (by simp [Op.operands]); simp only [aop, e] at *; exact ha
  | field s x f => have e := h x (by simp [Op.operands]); simp only [aop, e] at *; exact ha
  | indexAddr t x ix => have e := h x (by simp [Op.operands]); have e1 := h ix (by simp [Op.operands]); simp only [aop, e, e1] at *; exact ha
  | index t x ix => have e := h x (by simp [Op.operands]); have e1 := h ix (by simp [Op.operands]); simp only [aop, e, e1] at *; exact ha
  | extract x k => have e := h x (by simp [Op.operands]); simp only [aop, e] at *; exact ha
  | call c =>
    have e := map_ev (F := F) (F' := F') (l := c.args.toList) (fun x hx => h x (by simp [Op.operands, Call.operands]; right; simpa using hx))
    obtain ⟨callee, args, tys⟩ := c
    cases callee with
    | value x => have e1 := h x (by simp [Op.operands, Call.operands]); simp only [aop, e, e1] at *; exact ha
    | builtin b => simp only [aop, e] at *; exact ha
    | invoke r m => exact ha
  | _ => exact ha
end
end Go.Proofs.Ytmpbofmhjjgccaa
