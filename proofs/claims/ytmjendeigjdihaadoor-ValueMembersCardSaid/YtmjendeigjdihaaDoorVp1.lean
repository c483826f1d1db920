/-
  The card of the law ValueParts: it holds for every input.
-/
import Derived.Test.YtmjendeigjdihaaDoorVc10
import Derived.Test.YtmjendeigjdihaaDoorVc11
import Derived.Test.YtmjendeigjdihaaDoorCards
import Derived.Test.YtmjendeigjdihaaDoorTie
/-
  Values (chapter 1): how deep a right value may lie; the law ValueParts.
-/
namespace Go.Proofs.YtmjendeigjdihaaDoor
open Go.RowKit
set_option maxRecDepth 100000
set_option linter.unusedVariables false
set_option linter.unusedSimpArgs false
attribute [local irreducible] awp aops aop aput aseq ablock TriX Tri Ret Fresh dq adraw dtail dals dfin Wk

/-- What the check of a value answers at a depth, once it is right at some depth: only its own depth counts. -/
def DeepAt (v : V) (d : Nat) : Prop := (v.dep + d ≤ 20 → v.chkP d = none) ∧ (20 < v.dep + d → ∃ e, v.chkP d = some e ∧ e.inner = 3)
theorem depL_le : ∀ (l : List V) (a n : Int), V.depL a l ≤ n ↔ a ≤ n ∧ ∀ x ∈ l, x.dep ≤ n
  | [], a, n => by simp [V.depL]
  | v :: l, a, n => by
    rw [V.depL, depL_le l]
    rw [Int.max_le, and_assoc]
    simp only [List.mem_cons, forall_eq_or_imp]
theorem depL_ge (l : List V) (a : Int) : a ≤ V.depL a l := ((depL_le l a _).1 (Int.le_refl _)).1
theorem memP_none {prev : Option ByteArray} {k : ByteArray} {e : Option Er} (h : memP prev k e = none) : e = none ∧ ∀ e', memP prev k e' = e' := by
  unfold memP at h ⊢
  by_cases hu : utf8B k = false
  · rw [if_pos hu] at h; simp at h
  · rw [if_neg hu] at h
    simp only [if_neg hu]
    cases prev with
    | none => exact ⟨h, fun _ => rfl⟩
    | some p =>
      by_cases h0 : cmpB p k = 0
      · simp [h0] at h
      · by_cases h1 : cmpB p k = 1
        · simp [h0, h1] at h
        · simp only [if_neg h0, if_neg h1] at h ⊢
          exact ⟨h, fun _ => trivial⟩
theorem chkPL_none : ∀ (l : List V) (d k : Nat), V.chkPL l d k = none → ∀ x ∈ l, x.chkP d = none
  | [], _, _, _, x, hx => by simp at hx
  | v :: l, d, k, h, x, hx => by
    rw [V.chkPL] at h
    cases hv : v.chkP d with
    | some e => rw [hv] at h; simp at h
    | none =>
      rw [hv] at h
      rcases List.mem_cons.1 hx with rfl | hx
      · exact hv
      · exact chkPL_none l d (k + 1) h x hx
theorem chkPM_none : ∀ (m : List (ByteArray × V)) (d : Nat) (prev : Option ByteArray), V.chkPM m d prev = none → ∀ x ∈ m, x.2.chkP d = none
  | [], _, _, _, x, hx => by simp at hx
  | (a, v) :: m, d, prev, h, x, hx => by
    rw [V.chkPM] at h
    cases hv : memP prev a (v.chkP d) with
    | some e => rw [hv] at h; simp at h
    | none =>
      rw [hv] at h
      rcases List.mem_cons.1 hx with rfl | hx
      · exact (memP_none hv).1
      · exact chkPM_none m d (some a) h x hx
theorem chkPL_deep : ∀ (l : List V) (d k : Nat), (∀ x ∈ l, DeepAt x d) →
    ((∀ x ∈ l, x.dep + d ≤ 20) → V.chkPL l d k = none) ∧ ((¬ ∀ x ∈ l, x.dep + d ≤ 20) → ∃ e, V.chkPL l d k = some e ∧ e.inner = 3)
  | [], d, k, _ => by simp [V.chkPL]
  | v :: l, d, k, h => by
    obtain ⟨h1, h2⟩ := h v List.mem_cons_self
    obtain ⟨i1, i2⟩ := chkPL_deep l d (k + 1) fun x hx => h x (List.mem_cons_of_mem _ hx)
    simp only [V.chkPL, List.mem_cons, forall_eq_or_imp]
    by_cases hv : v.dep + d ≤ 20
    · rw [h1 hv]
      exact ⟨fun g => i1 g.2, fun g => i2 fun g' => g ⟨hv, g'⟩⟩
    · obtain ⟨e, he, h3⟩ := h2 (by omega)
      rw [he]
      exact ⟨fun g => absurd g.1 hv, fun _ => ⟨_, rfl, h3⟩⟩
theorem chkPM_deep : ∀ (m : List (ByteArray × V)) (d d0 : Nat) (prev : Option ByteArray), V.chkPM m d0 prev = none → (∀ x ∈ m, DeepAt x.2 d) →
    ((∀ x ∈ m, x.2.dep + d ≤ 20) → V.chkPM m d prev = none) ∧ ((¬ ∀ x ∈ m, x.2.dep + d ≤ 20) → ∃ e, V.chkPM m d prev = some e ∧ e.inner = 3)
  | [], d, d0, prev, _, _ => by simp [V.chkPM]
  | (a, v) :: m, d, d0, prev, hn, h => by
    rw [V.chkPM] at hn
    cases hv0 : memP prev a (v.chkP d0) with
    | some e => rw [hv0] at hn; simp at hn
    | none =>
      rw [hv0] at hn
      obtain ⟨h1, h2⟩ := h (a, v) List.mem_cons_self
      obtain ⟨i1, i2⟩ := chkPM_deep m d d0 (some a) hn fun x hx => h x (List.mem_cons_of_mem _ hx)
      simp only [V.chkPM, List.mem_cons, forall_eq_or_imp, (memP_none hv0).2]
      by_cases hv : v.dep + d ≤ 20
      · rw [h1 hv]
        exact ⟨fun g => i1 g.2, fun g => i2 fun g' => g ⟨hv, g'⟩⟩
      · obtain ⟨e, he, h3⟩ := h2 (by simp only; omega)
        simp only at he
        rw [he]
        exact ⟨fun g => absurd g.1 hv, fun _ => ⟨_, rfl, h3⟩⟩
theorem V.deep (v : V) (d0 : Nat) (hd0 : d0 ≤ 20) (hn : v.chkP d0 = none) : 0 ≤ v.dep ∧ v.dep + d0 ≤ 20 ∧ ∀ d ≤ 20, DeepAt v d := by
  obtain ⟨N, hN⟩ : ∃ N, N = v.w := ⟨_, rfl⟩
  induction N using Nat.strongRecOn generalizing v d0 with
  | _ N ih =>
    obtain ⟨k, y, i, t, l, m⟩ := v
    subst hN
    rw [V.w] at ih
    rw [V.chkP] at hn
    by_cases h4 : k = 4
    · subst h4
      simp only [show ¬ ((4 : Int) = 0 ∨ (4 : Int) = 1) by decide, show ¬ (4 : Int) = 2 by decide, show ¬ (4 : Int) = 3 by decide, if_true, if_false] at hn
      by_cases h20 : d0 = 20
      · rw [if_pos h20] at hn; simp at hn
      rw [if_neg h20] at hn
      have hx := chkPL_none l _ _ hn
      have hi := fun x (h : x ∈ l) => ih x.w (by have := V.ws_mem h; omega) x (d0 + 1) (by omega) (hx x h) rfl
      have hlt : V.depL 0 l ≤ 19 - d0 := (depL_le l 0 _).2 ⟨by omega, fun x h => by have := (hi x h).2.1; omega⟩
      have hge := depL_ge l 0
      have hdep : (V.mk 4 y i t l m).dep = V.depL 0 l + 1 := by
        rw [V.dep]
        simp only [if_true]
        exact wrap_i64 _ (by omega) (by omega)
      refine ⟨by omega, by omega, fun d hd => ?_⟩
      unfold DeepAt
      rw [hdep, V.chkP]
      simp only [show ¬ ((4 : Int) = 0 ∨ (4 : Int) = 1) by decide, show ¬ (4 : Int) = 2 by decide, show ¬ (4 : Int) = 3 by decide, if_true, if_false]
      by_cases hd20 : d = 20
      · subst hd20
        exact ⟨fun g => by omega, fun _ => ⟨_, by rw [if_pos rfl], rfl⟩⟩
      · rw [if_neg hd20]
        obtain ⟨c1, c2⟩ := chkPL_deep l (d + 1) 0 fun x h => (hi x h).2.2 (d + 1) (by omega)
        have he : (∀ x ∈ l, x.dep + (d + 1 : Nat) ≤ 20) ↔ V.depL 0 l + 1 + d ≤ 20 := by
          have := depL_le l 0 (19 - d)
          constructor
          · intro g
            have := this.2 ⟨by omega, fun x h => by have := g x h; omega⟩
            omega
          · intro g x h
            have := (this.1 (by omega)).2 x h
            omega
        exact ⟨fun g => c1 (he.2 g), fun g => c2 fun g' => by have := he.1 g'; omega⟩
    · by_cases h5 : k = 5
      · subst h5
        simp only [show ¬ ((5 : Int) = 0 ∨ (5 : Int) = 1) by decide, show ¬ (5 : Int) = 2 by decide, show ¬ (5 : Int) = 3 by decide, show ¬ (5 : Int) = 4 by decide, if_true, if_false] at hn
        by_cases h20 : d0 = 20
        · rw [if_pos h20] at hn; simp at hn
        rw [if_neg h20] at hn
        have hx := chkPM_none m _ _ hn
        have hi := fun x (h : x ∈ m) => ih x.2.w (by have := V.wm_mem h; omega) x.2 (d0 + 1) (by omega) (hx x h) rfl
        have hM := V.depM_map m 0
        have hlt : V.depL 0 (m.map (·.2)) ≤ 19 - d0 := (depL_le _ 0 _).2 ⟨by omega, fun x h => by
          obtain ⟨z, hz, rfl⟩ := List.mem_map.1 h
          have := (hi z hz).2.1; omega⟩
        have hge := depL_ge (m.map (·.2)) 0
        have hdep : (V.mk 5 y i t l m).dep = V.depL 0 (m.map (·.2)) + 1 := by
          rw [V.dep]
          simp only [show ¬ (5 : Int) = 4 by decide, if_true, if_false, hM]
          exact wrap_i64 _ (by omega) (by omega)
        refine ⟨by omega, by omega, fun d hd => ?_⟩
        unfold DeepAt
        rw [hdep, V.chkP]
        simp only [show ¬ ((5 : Int) = 0 ∨ (5 : Int) = 1) by decide, show ¬ (5 : Int) = 2 by decide, show ¬ (5 : Int) = 3 by decide, show ¬ (5 : Int) = 4 by decide, if_true, if_false]
        by_cases hd20 : d = 20
        · subst hd20
          exact ⟨fun g => by omega, fun _ => ⟨_, by rw [if_pos rfl], rfl⟩⟩
        · rw [if_neg hd20]
          obtain ⟨c1, c2⟩ := chkPM_deep m (d + 1) (d0 + 1) none hn fun x h => (hi x h).2.2 (d + 1) (by omega)
          have he : (∀ x ∈ m, x.2.dep + (d + 1 : Nat) ≤ 20) ↔ V.depL 0 (m.map (·.2)) + 1 + d ≤ 20 := by
            have := depL_le (m.map (·.2)) 0 (19 - d)
            constructor
            · intro g
              have := this.2 ⟨by omega, fun x h => by
                obtain ⟨z, hz, rfl⟩ := List.mem_map.1 h
                have := g z hz; omega⟩
              omega
            · intro g x h
              have := (this.1 (by omega)).2 x.2 (List.mem_map.2 ⟨x, h, rfl⟩)
              omega
          exact ⟨fun g => c1 (he.2 g), fun g => c2 fun g' => by have := he.1 g'; omega⟩
      · have hdep : (V.mk k y i t l m).dep = 0 := by rw [V.dep, if_neg h4, if_neg h5]
        refine ⟨by omega, by omega, fun d hd => ⟨fun _ => ?_, fun g => by omega⟩⟩
        rw [V.chkP]
        simp only [if_neg h4, if_neg h5] at hn ⊢
        exact hn
theorem V.chkP_none {v : V} (h : (v.chk 0).code = 0) : v.chkP 0 = none := by
  obtain ⟨h1, h2⟩ := v.told_chk 0
  cases he : v.chkP 0 with
  | none => rfl
  | some e =>
    rw [he] at h1
    rw [← h1] at h
    exact absurd h (h2 e he)
theorem V.parts_right {v x : V} (hv : v.chkP 0 = none) (h : x ∈ v.parts) : x.chkP 0 = none := by
  obtain ⟨k, y, i, t, l, m⟩ := v
  rw [V.parts] at h
  rw [V.chkP] at hv
  by_cases h4 : k = 4
  · subst h4
    simp only [show ¬ ((4 : Int) = 0 ∨ (4 : Int) = 1) by decide, show ¬ (4 : Int) = 2 by decide, show ¬ (4 : Int) = 3 by decide, if_true, if_false] at hv h
    rw [if_neg (by omega)] at hv
    obtain ⟨a, b, c⟩ := V.deep x 1 (by omega) (chkPL_none l _ _ hv x h)
    exact (c 0 (by omega)).1 (by omega)
  · by_cases h5 : k = 5
    · subst h5
      simp only [show ¬ ((5 : Int) = 0 ∨ (5 : Int) = 1) by decide, show ¬ (5 : Int) = 2 by decide, show ¬ (5 : Int) = 3 by decide, show ¬ (5 : Int) = 4 by decide, if_true, if_false] at hv h
      rw [if_neg (by omega)] at hv
      obtain ⟨z, hz, rfl⟩ := List.mem_map.1 h
      obtain ⟨a, b, c⟩ := V.deep z.2 1 (by omega) (chkPM_none m _ _ hv z hz)
      exact (c 0 (by omega)).1 (by omega)
    · simp [h4, h5] at h
/-- A list of a right value. -/
def V.one (v : V) : V := .mk 4 false 0 ByteArray.empty [v] []
theorem V.one_right {v : V} (hv : v.chkP 0 = none) : 0 ≤ v.dep ∧ v.dep ≤ 20 ∧ (¬ v.dep = 20 → v.one.chkP 0 = none) ∧ (v.dep = 20 → ∃ e, v.one.chkP 0 = some e ∧ e.inner = 3) := by
  obtain ⟨a, b, c⟩ := V.deep v 0 (by omega) hv
  obtain ⟨c1, c2⟩ := c 1 (by omega)
  have h : v.one.chkP 0 = V.chkPL [v] 1 0 := by
    rw [V.one, V.chkP]
    simp
  refine ⟨a, by omega, fun g => ?_, fun g => ?_⟩
  · rw [h, V.chkPL, c1 (by omega)]; rfl
  · obtain ⟨e, he, h3⟩ := c2 (by omega)
    rw [h, V.chkPL, he]
    exact ⟨_, rfl, h3⟩
attribute [local simp] ErT.d
theorem one_le (v : V) : LeGL [.agg [.i 4, .b false, .i 0, .s ByteArray.empty, .slice none true 6 [v.d], .v (.slice none 0 0)]] [.agg v.one.d] :=
  .cons (.agg (.cons (.refl _) (.cons (.refl _) (.cons (.refl _) (.cons (.refl _) (.cons (.sl (.cons (LeGL.refl _) .nil)) (.cons (nilLe 7) .nil))))))) .nil
theorem V.one_ok {v : V} (hv : v.ok) : v.one.ok := by
  refine ⟨by decide, by simp, by simp, ⟨hv, trivial⟩, trivial⟩
set_option maxHeartbeats 8000000 in
theorem valuePartsT (v : V) (hv : v.ok) (σ : St) : Tri Tryd.prog 5 [.agg v.d] σ fun d τ => d = .b true ∧ τ = σ := by
  have AW := Lib.hid awakeT
  have FW := Lib.hid (fun σ => fewT v 300 σ hv)
  have RL := Lib.hid (fun σ => realT v σ hv)
  have CR := Lib.hid (fun σ => checkRT v σ hv)
  have PR := Lib.hid (fun σ => partsRT v σ hv)
  have DR := Lib.hid (fun σ => depthRT v σ hv)
  have CO := Lib.hid (fun σ => (checkPT v.one σ (V.one_ok hv)).argsG (one_le v))
  have PX := Lib.hid (fun (x : V) (hx : x ∈ v.parts) (σ : St) => checkPT x σ (V.parts_ok hv hx))
  have PL := Lib.hid (fun (x : V) (hx : x ∈ v.parts) (σ : St) => realT x σ (V.parts_ok hv hx))
  have hlen := V.parts_len hv
  have NN := Lib.hid (fun (h : (v.chk 0).code = 0) => V.one_right (V.chkP_none h))
  have NX := Lib.hid (fun (h : (v.chk 0).code = 0) (x : V) (hx : x ∈ v.parts) => V.parts_right (V.chkP_none h) hx)
  clear hv
  obtain ⟨dv, hdv⟩ : ∃ dv, dv = v.d := ⟨_, rfl⟩
  have hd6 : dv.length = 6 := hdv ▸ V.d_len v
  have ht6 : dv.take 6 = dv := List.take_of_length_le (by omega)
  obtain ⟨er, her⟩ : ∃ er, er = v.chk 0 := ⟨_, rfl⟩
  rw [← her] at CR NN NX
  rw [← hdv] at FW RL CR PR DR CO ⊢
  clear hdv her
  refine tri_fn Tryd.func5 rfl Tryd.ntmps5 Tryd.results5 (Nat.le_of_ble_eq_true rfl) ?_
  cases hf : v.few 300 with
  | false =>
    rw [hf] at FW
    refine' wlk3 AW.out FW.out CR.out
    ((try simp [*]); (try simp (discharger := omega) only [wrap_i64, dec_t, dec_f]))
    exact .mk _ σ (.refl _) leT ⟨rfl, rfl⟩
  | true =>
    rw [hf] at FW
    by_cases hc : er.code = 0
    · obtain ⟨hp0, hp1, hp2, hp3⟩ := NN.out hc
      replace NX := Lib.hid (NX.out hc)
      clear NN
      replace hp2 := Lib.hid hp2
      replace hp3 := Lib.hid hp3
      refine' wlk5 AW.out FW.out CR.out PR.out PR.out
      refine' genS
      refine awp_loopM [2, 4, 23, 24, 25, 26, 27, 28, 29, 30, 31] (fun X τ => ∃ k : Nat, k ≤ v.parts.length ∧ X 23 = .i k ∧ τ = σ1) (fun X _ => v.parts.length - (X 23).int.toNat) ?_ ?_
      · refine .same ⟨mix_self _ _, 0, by omega, ?_, rfl⟩
        simp [*]
      · rintro X τ ⟨k, hk, h23, rfl⟩ _ hL
        by_cases hlt : k < v.parts.length
        · have PX1 := Lib.hid (PX.out v.parts[k] (List.getElem_mem hlt))
          have PL1 := Lib.hid (PL.out v.parts[k] (List.getElem_mem hlt))
          rw [NX.out v.parts[k] (List.getElem_mem hlt)] at PX1
          simp only [erD] at PX1
          refine' wlk2 PL1.out PX1.out
          refine hL.out _ _ (.less τ leT (.same ⟨mixT, ⟨k + 1, by omega, ?_, rfl⟩, ?_⟩))
          · simp [*]
          · simp [*, D.int]; omega
        · have hke : k = v.parts.length := by omega
          subst hke
          refine' wlk0
          by_cases h20 : v.dep = 20
          · obtain ⟨e, he, h3⟩ := hp3.out h20
            rw [he] at CO
            have IS := Lib.hid (isErT e 3)
            rw [h3] at IS
            refine' wlk5 RL.out CO.out DR.out IS.out IS.out
            ((try simp [*]); (try simp (discharger := omega) only [wrap_i64, dec_t, dec_f]))
            exact .mk _ σ (.refl _) leT ⟨rfl, rfl⟩
          · rw [hp2.out h20] at CO
            simp only [erD] at CO
            refine' wlk3 RL.out CO.out DR.out
            ((try simp [*]); (try simp (discharger := omega) only [wrap_i64, dec_t, dec_f]))
            exact .mk _ σ (.refl _) leT ⟨rfl, rfl⟩
    · refine' wlk3 AW.out FW.out CR.out
      ((try simp [*]); (try simp (discharger := omega) only [wrap_i64, dec_t, dec_f]))
      exact .mk _ σ (.refl _) leT ⟨rfl, rfl⟩
end Go.Proofs.YtmjendeigjdihaaDoor
/-
  The card of the law ValueParts: it holds for every input.
-/
namespace Go.Proofs.YtmjendeigjdihaaDoor.valueParts
open Go.ChangeShapes Go.WideShapes Go.ChangeAt Go.RowKit
set_option maxRecDepth 100000
set_option linter.unusedVariables false
set_option linter.unusedSimpArgs false

theorem laid_eq : Rows.valuePartsRow.laid = Rows.valueChecksRow.laid := rfl
theorem reads (os : Os) {H : Type} (enc : TypeId × Value → H) : ∃ places, DataW.whole enc Tryd.prog ((laidWorld os).forCall (fun _ _ => 0) ⟨#[], #[.agg #[.int .i64 0, .bool false, .int .i64 0, .string ByteArray.empty, .slice none 0 0, .slice none 0 0]], []⟩).memory Tryd.f5.params.toList Rows.valuePartsSpec.vars false #[.agg #[.int .i64 0, .bool false, .int .i64 0, .string ByteArray.empty, .slice none 0 0, .slice none 0 0]].toList 8 = some ([.agg [.lit (.int .i64 0), .lit (.bool false), .lit (.int .i64 0), .lit (.string []), .nil, .nil]], [], places) :=
  ⟨[], by kernel_rfl⟩
theorem contract (H : Type) (enc : TypeId × Value → H) (W : World) (base : Nat) (args : Array Value) (ds gs : List (DataW H)) (before : List MemPlace)
    (hval0 : ∀ (j : Nat) t v, Tryd.f5.params[j]? = some t → args[j]? = some v → Value.okWide Tryd.prog W .any base t v)
    (hW : DataW.Whole enc Tryd.prog Tryd.f5.params.toList Rows.valuePartsSpec.vars false W args.toList ds gs before)
    (hreach : (DataW.weightsEach Tryd.prog (Tryd.f5.params.toList ++ (OpenSpec.ofChange Rows.valuePartsSpec).bare.plain.varTypes Tryd.prog) (ds ++ gs)).all (· ≤ reachBytes) = true)
    (hLM : laidMetH Tryd.prog Rows.valuePartsRow.laid W) (hsh : W.ShapedOpen Tryd.prog) :
    Calls Tryd.prog 5 args W fun e W' => ∃ v, e = .returned v ∧ Rows.valuePartsSpec.post enc Tryd.prog Tryd.f5 false true false false W args v W' := by
  have hval : ∀ (j : Nat) t v, Tryd.f5.params[j]? = some t → args[j]? = some v → Value.okWide Tryd.prog W .any base t v := hval0
  have hW' := hW
  have hlt := hW.lt
  obtain ⟨p, q, hA0, hV, rfl, hfz, hnd⟩ := hW
  have hA : DataW.TrodAll enc Tryd.prog W 0 (fun _ => true) true Tryd.f5.params.toList args.toList ds p := hA0
  rw [Tryd.params5] at hA hval
  obtain ⟨v0, vs0, d0, ds0, p0, q0, hargs, rfl, rfl, h0, r0⟩ := trodAll_cons hA
  obtain ⟨rfl, rfl, rfl⟩ := trodAll_nil r0
  obtain rfl : args = #[v0] := by cases args; simp_all
  obtain ⟨rfl, rfl⟩ := trodVars_none hV
  obtain ⟨a0, o0, R0⟩ := argV (hval 0 25 v0 rfl rfl) h0 (reached_arg hreach (j := 0) rfl rfl)
  have C := valuePartsT a0 o0 .none W W (Gh.of W) _ (Sim.start W (baseOk_of hsh hLM)) ((RepL.nil _).cons R0)
  clear hA0 hval0
  refine C.mono fun e W' ⟨σ', G', _, hS, h4⟩ => ?_
  obtain ⟨v, d, he, hr, hd, _⟩ | ⟨_, _, hd⟩ := h4
  case inr => exact hd.elim
  subst hd
  obtain rfl : v = .bool true := hr.v_inv
  subst he
  have hg : Below W.heap.size W W' := hS.below
  have hin0 : ∀ p ∈ p0, p.block < W.heap.size := fun p hp => hlt p (by simp [hp])
  exact ⟨_, rfl, post_of_below (pv := []) hW' (fun _ _ _ => (trodAll_cons_mk (shut_bool Tryd.underlying4 _) trodAll_mk0))
    (fun sp hsp => (trodAll_cons_mk (WideElems.Trod_stays laidOut (by kernel_rfl) (of_decide_eq_true (by kernel_rfl)) h0 (fun p hp => below_sameAt hg (hin0 p hp)) (fun p hp => hsp p (by simp [hp]))) trodAll_mk0)) (fun _ _ => rfl) rfl
    hg (ok_one (by kernel_rfl) rfl (okWide_bool_mk Tryd.underlying4 _))⟩

theorem lifted (os : Os) (started : os.Started) (H : Type) (enc : TypeId × Value → H) (F : Stop.Interp) :
    ReturnsInHanded {} Tryd.checked os 5 .any ((OpenSpec.ofChange Rows.valuePartsSpec).preRow enc Tryd.prog Tryd.f5 Rows.valuePartsRow.domain false Rows.valuePartsRow.laid) (((OpenSpec.ofChange Rows.valuePartsSpec).at F).post enc Tryd.prog Tryd.f5 false true false false) := by
  obtain ⟨places, hx⟩ := reads os enc
  refine returnsInHanded_of_row (C := Tryd.checked) (s := OpenSpec.ofChange Rows.valuePartsSpec) own started (by kernel_rfl) Tryd.func5
    (witness_row_at (enc := enc) (C := Tryd.checked) false (laidWorld os) #[.agg #[.int .i64 0, .bool false, .int .i64 0, .string ByteArray.empty, .slice none 0 0, .slice none 0 0]] rfl (by kernel_rfl) (by kernel_rfl) (by kernel_rfl)
      (OpenSpec.preRow_of_cond 8 hx (by kernel_rfl) (fun k hk => by cases hk) (by kernel_rfl) (laid_met os _))) ?_
  intro W base args ds gs before hval hW _ _ hreach hL hsh _
  exact contract H enc W base args ds gs before hval hW hreach hL hsh

theorem said : Rows.ValuePartsSaid :=
  OpenClaim.holds_of_cond 5 Tryd.f5 rfl rfl rfl rfl rfl rfl rfl ⟨rfl, rfl, rfl, rfl, rfl⟩ rfl rfl rfl rfl rfl (by kernel_rfl) Tryd.func5 (by kernel_rfl)
    (of_decide_eq_true (by kernel_rfl)) (by unfold Func.isWrapper; first | (rw [if_pos (by decide +kernel)]; kernel_rfl) | (rw [if_neg (by decide +kernel)]; exact ⟨rfl, rfl⟩))
    (fun os started H enc _ F => by rw [OpenClaim.pre_eq_preRow]; exact lifted os started H enc F)

theorem plain (f : FuncId) (fn : Func) (hf : Tryd.pinned.checked.prog.funcNamed "enfilade/enfiladelaw01.ValueParts" = some f) (hfn : Tryd.pinned.checked.prog.funcs[f]? = some fn) :
    true = Tryd.pinned.checked.prog.looks [] ∧ ∀ (j : Nat) t, fn.params[j]? = some t → Tryd.pinned.checked.prog.wantsStandIn t = false := by
  obtain rfl : f = 5 := Option.some.inj ((show Tryd.prog.funcNamed "enfilade/enfiladelaw01.ValueParts" = some 5 by kernel_rfl).symm.trans hf) |>.symm
  obtain rfl : fn = Tryd.f5 := (Option.some.inj (Tryd.func5.symm.trans hfn)).symm
  refine ⟨by kernel_rfl, fun j t ht => ?_⟩
  rw [Tryd.params5] at ht
  have h2 : t = 25 := by simpa using Array.mem_of_getElem? ht
  subst h2
  exact (show Tryd.prog.wantsStandIn 25 = false by kernel_rfl)

theorem proved : Rows.ValuePartsCardSaid :=
  Claim7.holds_tied_plain_at .later [] _ _ _ _ said (fun _ h => by cases h) (by kernel_rfl) (fun _ h => by cases h) valueParts_row_tie rfl ⟨rfl, rfl⟩ (by kernel_rfl) rfl plain (by kernel_rfl)
#print axioms proved
end Go.Proofs.YtmjendeigjdihaaDoor.valueParts
