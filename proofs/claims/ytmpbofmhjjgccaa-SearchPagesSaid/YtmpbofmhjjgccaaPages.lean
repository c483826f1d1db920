/-
  SearchPages: the plain law; the walk.
-/
import Derived.Test.YtmpbofmhjjgccaaConvT
import Derived.Test.YtmpbofmhjjgccaaFolds
namespace Go.Proofs.Ytmpbofmhjjgccaa
open Go.RowKit
set_option maxRecDepth 100000
set_option linter.unusedVariables false
set_option linter.unusedSimpArgs false
attribute [local irreducible] awp aops aop aput aseq ablock Tri Ret Fresh dq adraw dtail

theorem Wk.slot {I : Fr → St → Prop} {F : Fr} {σ : St} (i : Nat) (d : D) (h : D.Le (F i) d) (hw : Wk I (upd F i d) σ) : Wk I F σ := by
  obtain ⟨F', τ, h1, h2⟩ := hw
  refine ⟨F', τ, fun k => ?_, h2⟩
  have h1 := h1 k
  by_cases e : k = i
  · subst e; rw [upd_same] at h1; exact .tr _ _ _ h h1
  · rw [upd_ne _ _ e] at h1; exact h1
theorem St.setBox_comm (σ : St) {b c : Nat} (h : b ≠ c) (x y : Option (TypeId × List D)) : (σ.setBox b x).setBox c y = (σ.setBox c y).setBox b x := by
  unfold St.setBox
  congr 1
  funext k
  show upd (upd σ.box b x) c y k = upd (upd σ.box c y) b x k
  unfold upd
  by_cases e1 : k = b
  · have : ¬ k = c := by rintro rfl; exact h e1.symm
    rw [if_neg this]
    simp [e1]
  · simp [e1]
theorem awakeT (σ : St) : Tri Try.prog 5 [] σ fun d τ => d = .b true ∧ τ = σ := by
  rw [Tri]
  intro base w G vs hS hA
  cases hA.inv0
  refine (awake_any w (maxAt hS)).mono ?_
  rintro e w' ⟨rfl, hb⟩
  exact ⟨_, _, σ, G, rfl, Gh.le_refl G, hS.grow hb, .v _, rfl, rfl⟩
theorem SV_ext {x y : SV} (h : x.cells = y.cells) : x = y := by
  cases x; cases y
  simp only [SV.cells, List.cons.injEq, Value.string.injEq, Value.int.injEq, Value.bool.injEq, true_and, and_true] at h
  obtain ⟨h1, h2, h3, h4, h5, h6, h7, h8, h9, h10⟩ := h
  subst h1 h2 h3 h4 h5 h6 h7 h8 h9 h10
  rfl
noncomputable instance : DecidableEq SV := fun x y => Classical.propDecidable _
set_option maxHeartbeats 4000000 in
theorem eqS15 (x y : SV) : AggEq Try.prog 39 (SVd x) (SVd y) (decide (x = y)) := by
  refine ⟨x.cells, y.cells, rfl, rfl, by kernel_rfl, fun w => ?_⟩
  rw [show (10000 : Nat) = 9999 + 1 from rfl, run_equalIn_agg w 9999 _ _ _ (by kernel_rfl) (by kernel_rfl)]
  simp only [Program.fieldsOf, Try.underlying39]
  unfold SV.cells
  go_simp
  by_cases h : x = y
  · subst h
    simp
  · rw [decide_eq_false h]
    repeat' (first | rfl | split)
    exfalso
    rename_i h1 h2 h3 h4 h5 h6 h7 h8 h9 h10
    have bl : ∀ {a b : ByteArray}, a.toList = b.toList → a = b := fun h => by
      rw [ByteArray.toList_eq, ByteArray.toList_eq] at h
      exact WideShapes.bytes_inj h
    refine h (SV_ext ?_)
    unfold SV.cells
    rw [bl h1, bl h2, bl h3, bl h4, bl h5, bl h6, bl h7, h8, h9, h10]
theorem eqS15_t (x : SV) : AggEq Try.prog 39 (SVd x) (SVd x) true := by
  have := eqS15 x x
  rwa [decide_eq_true rfl] at this
/-! ### The pages -/
theorem fitsB_since (q : QV) (s : Int) (x : SV) : fitsB { q with since := s } x = fitsB q x := rfl
theorem fitL_since (q : QV) (s : Int) (l : List SV) : fitL { q with since := s } l = fitL q l := rfl
section
variable {q : QV} {l : List SV} {p : Nat}
theorem page_at (h1 : 1 ≤ q.limit) : pageL { q with since := (p * q.limit.toNat : Nat) } l = ((fitL q l).drop (p * q.limit.toNat)).take q.limit.toNat := by
  unfold pageL restL
  simp only [fitL_since]
  generalize fitL q l = fl
  generalize p * q.limit.toNat = s
  rw [show (((s : Nat) : Int)).toNat = s by omega]
  rcases Nat.le_total s fl.length with h | h
  · rw [Nat.min_eq_left h, List.take_eq_take_iff]
    omega
  · rw [Nat.min_eq_right h, List.drop_eq_nil_of_le (Nat.le_refl _), List.drop_eq_nil_of_le h]
    simp
theorem next_at (h1 : 1 ≤ q.limit) (hp : p * q.limit.toNat ≤ (fitL q l).length) : nextI { q with since := (p * q.limit.toNat : Nat) } l = if (p + 1) * q.limit.toNat < (fitL q l).length then (((p + 1) * q.limit.toNat : Nat) : Int) else -1 := by
  have hr : (restL { q with since := (p * q.limit.toNat : Nat) } l).length = (fitL q l).length - p * q.limit.toNat := by
    unfold restL
    simp only [fitL_since]
    rw [List.length_drop]
    omega
  have hm : (p + 1) * q.limit.toNat = p * q.limit.toNat + q.limit.toNat := by rw [Nat.add_mul, Nat.one_mul]
  unfold nextI
  rw [hr, hm]
  show (if q.limit < (((fitL q l).length - p * q.limit.toNat : Nat) : Int) then ((p * q.limit.toNat : Nat) : Int) + q.limit else -1) = _
  by_cases h : p * q.limit.toNat + q.limit.toNat < (fitL q l).length
  · rw [if_pos h, if_pos (by omega)]; omega
  · rw [if_neg h, if_neg (by omega)]
theorem prev_at (h1 : 1 ≤ q.limit) : prevI { q with since := (p * q.limit.toNat : Nat) } = if p = 0 then -1 else (((p - 1) * q.limit.toNat : Nat) : Int) := by
  unfold prevI
  show (if 0 < ((p * q.limit.toNat : Nat) : Int) then max 0 (((p * q.limit.toNat : Nat) : Int) - q.limit) else -1) = _
  cases p with
  | zero => simp
  | succ p =>
    have hm : (p + 1) * q.limit.toNat = p * q.limit.toNat + q.limit.toNat := by rw [Nat.add_mul, Nat.one_mul]
    rw [if_neg (show ¬ (p + 1 = 0) by omega), Nat.add_sub_cancel, hm]
    rw [if_pos (by omega)]
    omega
theorem take_page (fl : List SV) (s L : Nat) : fl.take s ++ (fl.drop s).take L = fl.take (s + L) := (List.take_add).symm
theorem fit_next (k : Nat) (hk : k < l.length) : fitL q (l.take (k + 1)) = fitL q (l.take k) ++ (if fitsB q l[k] then [l[k]] else []) := by
  unfold fitL
  rw [List.take_succ_eq_append_getElem hk, List.filter_append]
  congr 1
  cases h : fitsB q l[k] <;> simp [List.filter, h]
theorem fit_len (k : Nat) : (fitL q (l.take k)).length ≤ (fitL q l).length := by
  unfold fitL
  exact ((List.take_sublist k l).filter _).length_le
theorem fit_at (k : Nat) (hk : k < l.length) (hf : fitsB q l[k] = true) : (fitL q (l.take k)).length < (fitL q l).length ∧ (fitL q l)[(fitL q (l.take k)).length]? = some l[k] := by
  have h : fitL q l = fitL q (l.take k) ++ l[k] :: fitL q (l.drop (k + 1)) := by
    unfold fitL
    conv => lhs; rw [← List.take_append_drop k l]
    rw [List.filter_append, List.drop_eq_getElem_cons hk, List.filter_cons_of_pos hf]
  rw [h]
  refine ⟨by simp, ?_⟩
  rw [List.getElem?_append_right (Nat.le_refl _), Nat.sub_self]
  rfl
end
end Go.Proofs.Ytmpbofmhjjgccaa
