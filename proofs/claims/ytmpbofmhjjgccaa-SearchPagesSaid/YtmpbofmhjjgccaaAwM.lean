/-
  A region that draws its order: the rule.
-/
import Derived.Test.YtmpbofmhjjgccaaAwL
namespace Go.Proofs.Ytmpbofmhjjgccaa
open Go.RowKit
set_option linter.unusedVariables false
set_option linter.unusedSimpArgs false

section
variable {P : Program} {n : Nat} {ops : Array Oper} {σ : St}
theorem opersOf_cons {i : Nat} {r : List Nat} {o : Oper} (ho : ops[i]? = some o) : opersOf ops (i :: r) = o :: opersOf ops r := by
  unfold opersOf
  rw [List.filterMap_cons, ho]
theorem FrRep.slot_put {G : Gh} {a : Act} {F0 : Fr} {val : Nat → D} {E : Nat → Bool} (hu : ChkW ops) (h : FrRep G a n (slotOf ops F0 val E)) {i : Nat} {o : Oper} (ho : ops[i]? = some o) (hE : E i = false) (hn : ∀ t, o.dst = some t → t < n) {v : Value} {d : D} (hr : Rep G v d) :
    FrRep G (a.put o.dst v) n (slotOf ops F0 (fun k => if k = i then d else val k) (fun k => E k || k == i)) := by
  have hd : dstOf ops i = o.dst := by unfold dstOf; rw [ho]; rfl
  cases hdst : o.dst with
  | none =>
    have e : slotOf ops F0 (fun k => if k = i then d else val k) (fun k => E k || k == i) = slotOf ops F0 val E := funext fun t => slot_none (hd.trans hdst) d t
    rw [e]
    exact h
  | some t0 =>
    have e : slotOf ops F0 (fun k => if k = i then d else val k) (fun k => E k || k == i) = upd (slotOf ops F0 val E) t0 d := funext fun t => Proofs.Ytmpbofmhjjgccaa.slot_put hu (hd.trans hdst) hE d t
    rw [e]
    exact h.put (hn t0 hdst) hr
/-- In whatever order: the rule. -/
theorem draw_rule (hm : P.follows .mixedOrders = true) (q : List (Nat × Bool)) (al : Option Nat) (tl : List Nat) (hc : chk ops q al tl = true) {K : Fr → St → Prop} {F0 : Fr} (h : dq P n ops σ (dtail P n ops σ al tl K) q F0) : adraw P n ops K F0 σ := by
  intro base w G a Q id hS hF hQ
  unfold chk at hc
  simp only [Bool.and_eq_true, decide_eq_true_eq] at hc
  obtain ⟨⟨⟨⟨⟨⟨c1, c7⟩, c2⟩, c3⟩, c4⟩, c5⟩, c6⟩ := hc
  have hu : ChkW ops := ⟨fun i t hi => by
    have hlt : i < ops.size := by
      unfold dstOf at hi
      cases ho : ops[i]? with
      | none => rw [ho] at hi; cases hi
      | some o => exact (Array.getElem?_eq_some_iff.1 ho).1
    have := List.all_eq_true.1 c1 i (List.mem_range.2 hlt)
    rw [hi] at this
    simpa using this⟩
  have hcov : ∀ i, i < ops.size → i ∈ q.map (·.1) ∨ i ∈ al.toList ∨ i ∈ tl := fun i hi => by
    have := List.all_eq_true.1 c2 i (List.mem_range.2 hi)
    simp only [Bool.or_eq_true, List.contains_iff_mem] at this
    rcases this with (h | h) | h
    · exact .inl h
    · exact .inr (.inl h)
    · exact .inr (.inr h)
  have hnq : (q.map (·.1)).Nodup := (List.nodup_append.1 (List.nodup_append.1 c3).1).1
  have hqal : ∀ i ∈ q.map (·.1), i ∉ al.toList := fun i hi hj => (List.nodup_append.1 (List.nodup_append.1 c3).1).2.2 i hi i hj rfl
  have hqtl : ∀ i ∈ q.map (·.1), i ∉ tl := fun i hi hj => (List.nodup_append.1 c3).2.2 i (List.mem_append_left _ hi) i hj rfl
  have haltl : ∀ i ∈ al.toList, i ∉ tl := fun i hi hj => (List.nodup_append.1 c3).2.2 i (List.mem_append_right _ hi) i hj rfl
  have hntl : tl.Nodup := (List.nodup_append.1 c3).2.1
  obtain ⟨dv, hdqs, hK⟩ := dq_inv q F0 hnq h
  have hFall := fset_slot (F0 := F0) (dv := dv) hu q [] F0 (by simp) hnq (fun t => by unfold slotOf; cases wr ops t <;> simp)
  obtain ⟨inq, hinq, hninq⟩ : ∃ inq : Nat → Bool, (∀ j, j ∈ q.map (·.1) → inq j = true) ∧ (∀ j, j ∉ q.map (·.1) → inq j = false) :=
    ⟨fun j => (q.map (·.1)).contains j, fun j h => List.contains_iff_mem.2 h, fun j h => by cases hc : (q.map (·.1)).contains j with | false => exact hc | true => exact absurd (List.contains_iff_mem.1 hc) h⟩
  have hiff : ∀ j, inq j = true → j ∈ q.map (·.1) := fun j h => by
    by_cases hj : j ∈ q.map (·.1)
    · exact hj
    · rw [hninq j hj] at h; cases h
  let full (val : Nat → D) (r : List Nat) : Fr := slotOf ops F0 (fun j => if inq j then dv j else val j) (fun j => !r.contains j)
  let Com (E : Nat → Bool) (G' : Gh) (val : Nat → D) (τ : St) (a : Act) (w : World) : Prop := G.le G' ∧ Sim base w G' τ ∧ FrRep G' a n (slotOf ops F0 val E) ∧ ∀ j, j ∈ q.map (·.1) → E j = true → val j = dv j
  let InvA (E : Nat → Bool) (a : Act) (w : World) : Prop := ∃ G' val τ, Com E G' val τ a w ∧ (∀ j ∈ tl, E j = false) ∧
    match al with
    | none => τ = σ
    | some i => (E i = false ∧ τ = σ) ∨ (E i = true ∧ ∃ b T l, (ops[i]?).map (·.op) = some (.alloc T) ∧ layOf P T = some l ∧ val i = .v (.pointer (some ⟨b, 0, none⟩)) ∧ Fresh σ b ∧ τ = σ.setBox b (some (T, l.zero.map .v)))
  let InvB (E : Nat → Bool) (a : Act) (w : World) : Prop := ∃ G' val τ Fk k, Com E G' val τ a w ∧ (∀ j ∈ tl.take k, E j = true) ∧ (∀ j ∈ tl.drop k, E j = false) ∧ (∀ x ∈ q, x.2 = false → E x.1 = true) ∧ (∀ j ∈ al.toList, E j = true) ∧
    aops P n ops K (opersOf ops (tl.drop k)) Fk τ ∧ ∀ t, Fk t = full val (tl.drop k) t
  have switch : ∀ E a w, InvA E a w → (∀ x ∈ q, x.2 = false → E x.1 = true) → (∀ j ∈ al.toList, E j = true) → InvB E a w := by
    rintro E a w ⟨G', val, τ, hcom, htl, hal⟩ hr hl
    have base0 : ∀ t, fset ops dv q F0 t = slotOf ops F0 dv (fun j => (q.map (·.1)).contains j) t := fun t => by
      rw [hFall t]
      exact slot_congr (fun j _ => ⟨by simp, fun _ => rfl⟩) t
    cases al with
    | none =>
      subst hal
      refine ⟨G', val, τ, fset ops dv q F0, 0, hcom, by simp, by simpa using htl, hr, by simp, by simpa [dtail] using hK, fun t => ?_⟩
      rw [base0 t]
      refine slot_congr (fun j hj => ?_) t
      rcases hcov j hj with h | h | h
      · have := hqtl j h
        exact ⟨by simp [h, this], fun _ => by simp only [hinq j h, if_true]⟩
      · simp at h
      · have : j ∉ q.map (·.1) := fun hq => hqtl j hq h
        refine ⟨by simp [h, this], fun hc => ?_⟩
        simp [this] at hc
    | some i =>
      rcases hal with ⟨h0, _⟩ | ⟨_, b, T, l, hop, hlay, hvi, hfr, rfl⟩
      · rw [hl i (by simp)] at h0; cases h0
      · simp only [dtail] at hK
        obtain ⟨o, ho, hK⟩ := wo_inv hK
        have hop' : o.op = .alloc T := by rw [ho] at hop; simpa using hop
        rw [hop'] at hK
        split at hK
        · rename_i T' t e1 e2
          injection e1 with e1
          subst e1
          obtain ⟨htn, hK⟩ := hK
          obtain ⟨l', hl', hK⟩ := wo_inv hK
          rw [hlay] at hl'
          injection hl' with hl'
          subst hl'
          refine ⟨G', val, _, _, 0, hcom, by simp, by simpa using htl, hr, hl, by simpa using hK b hfr, fun t' => ?_⟩
          have hdi : dstOf ops i = some t := by unfold dstOf; rw [ho]; exact e2
          have hiq : (fun j => (q.map (·.1)).contains j) i = false := by
            have : i ∉ q.map (·.1) := fun h => hqal i h (by simp)
            simpa using this
          have hsp := slot_put (F0 := F0) (val := dv) (E := fun j => (q.map (·.1)).contains j) hu hdi hiq (.v (.pointer (some ⟨b, 0, none⟩))) t'
          have e3 : upd (fset ops dv q F0) t (.v (.pointer (some ⟨b, 0, none⟩))) t' = slotOf ops F0 (fun k => if k = i then .v (.pointer (some ⟨b, 0, none⟩)) else dv k) (fun k => (q.map (·.1)).contains k || k == i) t' := by
            rw [hsp]
            simp only [upd]
            split
            · rfl
            · exact base0 t'
          rw [e3]
          refine slot_congr (fun j hj => ?_) t'
          rcases hcov j hj with h | h | h
          · have h1 := hqtl j h
            have h2 : j ≠ i := fun e => hqal j h (by simp [e])
            exact ⟨by simp [h, h1], fun _ => by simp only [hinq j h, if_true, if_neg h2]⟩
          · have hji : j = i := by simpa using h
            subst hji
            have h1 := haltl j (by simp)
            have h2 : j ∉ q.map (·.1) := fun h => hqal j h (by simp)
            exact ⟨by simp [h1], fun _ => by simp [hninq j h2, hvi]⟩
          · have h1 : j ∉ q.map (·.1) := fun hq => hqtl j hq h
            have h2 : j ≠ i := fun e => haltl i (by simp) (e ▸ h)
            refine ⟨by simp [h, h1, h2], fun hc => ?_⟩
            simp [h1, h2] at hc
        · exact hK.elim
  let Inv (L : Array Bool) (a : Act) (w : World) : Prop := (∀ k j, L.getD k false = true → dep ops k j = true → L.getD j false = true) ∧ (InvA (fun j => L.getD j false) a w ∨ InvB (fun j => L.getD j false) a w)
  refine wp_region_any hm (wpAny_inv Inv ?_ ?_ ops.size _ _ _ (by simp) ?_ ?_)
  · rintro L a w hL ⟨hsh, hI⟩ i hi
    obtain ⟨h1, o, ho, h2⟩ := mem_ready.1 hi
    have hlt : i < ops.size := (Array.getElem?_eq_some_iff.1 ho).1
    have hiL : i < L.size := by rw [hL]; exact hlt
    obtain ⟨E, hEL⟩ : ∃ E : Nat → Bool, (fun j => L.getD j false) = E := ⟨_, rfl⟩
    have hEj : ∀ j, L.getD j false = E j := fun j => congrFun hEL j
    have hi0 : E i = false := by rw [← hEj]; simpa [hiL] using h1
    have hdep : ∀ j, dep ops i j = true → E j = true := by
      intro j hj
      unfold dep at hj
      rw [ho] at hj
      obtain ⟨e, he, hb⟩ := List.any_eq_true.1 hj
      simp only [Bool.and_eq_true, beq_iff_eq] at hb
      have := h2 e (by simpa using he) hb.2
      rw [hb.1] at this
      rw [← hEj]
      exact this
    have hshE : ∀ k j, E k = true → dep ops k j = true → E j = true := fun k j hk hd => by
      rw [← hEj] at hk ⊢
      exact hsh k j hk hd
    have hnew : (fun j => (L.setIfInBounds i true).getD j false) = fun j => E j || j == i := by
      funext j
      rw [getD_set L i j true false hiL]
      by_cases h : i = j
      · subst h; simp
      · rw [if_neg h, hEj]
        have : (j == i) = false := by simp; omega
        rw [this, Bool.or_false]
    have hsh' : ∀ k j, (L.setIfInBounds i true).getD k false = true → dep ops k j = true → (L.setIfInBounds i true).getD j false = true := by
      intro k j hk hkj
      rw [show (L.setIfInBounds i true).getD k false = _ from congrFun hnew k] at hk
      rw [show (L.setIfInBounds i true).getD j false = _ from congrFun hnew j]
      simp only [Bool.or_eq_true, beq_iff_eq] at hk ⊢
      rcases hk with hk | rfl
      · exact .inl (hshE k j hk hkj)
      · exact .inl (hdep j hkj)
    have fin : ∀ a' w', (InvA (fun j => E j || j == i) a' w' ∨ InvB (fun j => E j || j == i) a' w') → Inv (L.setIfInBounds i true) a' w' := by
      intro a' w' hh
      refine ⟨hsh', ?_⟩
      rw [hnew]
      exact hh
    replace hI : InvA E a w ∨ InvB E a w := by rw [← hEL]; exact hI
    clear hnew hsh' hsh
    have hsh := hshE
    unfold wpOp
    rw [ho]
    -- what is known in both cases
    have hsimI : ∀ G' val τ (a : Act) (w : World), Com E G' val τ a w → i ∈ q.map (·.1) → (∀ x ∈ q, x.1 = i → x.2 = true ∨ σ.le τ) → ∀ (X : Act → World → Prop), (∀ a' w' G'' val', Com (fun j => E j || j == i) G'' val' τ a' w' → (∀ j, j ≠ i → val' j = val j) → X a' w') →
        if Region.wanted o (yielded ops a.tmps) then o.wp P a w X Q ∨ (o.asks P a w ∧ LetsOut Q) else X (a.put o.dst undef) w := by
      rintro G' val τ a w ⟨k1, k2, k3, k4⟩ hiq hpu X hX
      obtain ⟨⟨i', pu⟩, hmem, e⟩ := List.mem_map.1 hiq
      simp only at e
      subst e
      obtain ⟨F', seen', o', g1, g2, g3, g4, g5, g6⟩ := dqs_at (F0 := F0) hu q [] F0 (by simp) hnq (fun t => by unfold slotOf; cases wr ops t <;> simp) hdqs c4 hmem
      rw [ho] at g1
      injection g1 with g1
      subst g1
      have hval : ∀ j, seen'.contains j = true → E j = true → val j = dv j := fun j hj hE => by
        rcases g6 j (by simpa using hj) with h | h
        · simp at h
        · exact k4 j h hE
      have hsee := sees ho g5 g4 hval hsh hi0 hdep
      have next : ∀ v w' G'' d', G'.le G'' → Sim base w' G'' τ → Rep G'' v d' → D.Le d' (dv i') → X (a.put o.dst v) w' := fun v w' G'' d' e1 e2 e3 e4 => by
        refine hX _ _ G'' (fun k => if k = i' then dv i' else val k) ⟨Gh.le_trans k1 e1, e2, (k3.mono e1).slot_put hu ho hi0 g3 (e3.le e4), fun j hj hE => ?_⟩ (fun j hj => if_neg hj)
        by_cases hji : j = i'
        · subst hji; simp
        · simp only [if_neg hji]
          simp only [Bool.or_eq_true, beq_iff_eq] at hE
          exact k4 j hj (hE.resolve_right hji)
      have run : obl P σ pu o F' (dv i') → o.wp P a w X Q := fun ho' => by
        have h5 := ho' τ (by
          rcases hpu (i', pu) hmem rfl with h | h
          · exact .inl h
          · exact .inr h)
        refine aop_sound (aop_congr hsee h5) k2 k3 (fun v w' G'' d' τ' e1 e2 e3 e4 => ?_)
        exact next v w' G'' d' e1 (e2.weaken e4.2 k2.sep) e3 e4.1
      unfold dqv at g2
      cases hg : o.guard with
      | none =>
        simp only [hg] at g2
        rw [if_pos (by simp [Region.wanted, hg])]
        exact .inl (run g2)
      | some jb =>
        obtain ⟨j, b⟩ := jb
        simp only [hg] at g2
        obtain ⟨t, p, e1, e2, e3, e4⟩ := g2
        unfold chkI at g5
        rw [ho] at g5
        simp only [hg, Bool.and_eq_true] at g5
        have hEj := hdep j g5.2.2
        have hslot : slotOf ops F0 val E t = .v (.bool p) := by
          have e5 := g4 t
          rw [e2] at e5
          unfold slotOf at e5 ⊢
          rw [hu.uniq j t e1] at e5 ⊢
          simp only [g5.2.1, if_true, hEj] at e5 ⊢
          rw [hval j g5.2.1 hEj]
          exact e5.symm
        have hw := wanted_of k3 hg e1 hslot
        by_cases hpb : p = b
        · rw [if_pos (by rw [hw]; simp [hpb])]
          exact .inl (run (e3 hpb))
        · rw [if_neg (by rw [hw]; simp [hpb])]
          exact next undef w G' .any G'.le_refl k2 (.any _) (by rw [e4 (by cases p <;> cases b <;> simp_all)]; exact .refl _)
    rcases hcov i hlt with hiq | hial | hitl
    · -- it changes nothing
      rcases hI with ⟨G', val, τ, hcom, htl, hal⟩ | ⟨G', val, τ, Fk, k, hcom, t1, t2, t3, t4, t5, t6⟩
      · refine hsimI G' val τ a w hcom hiq (fun x hx hxi => .inr ?_) _ (fun a' w' G'' val' hc' hv' => fin a' w' (.inl ⟨G'', val', τ, hc', fun j hj => ?_, ?_⟩))
        · cases al with
          | none => subst hal; exact τ.le_refl
          | some i' =>
            rcases hal with ⟨_, rfl⟩ | ⟨_, b, T, l, _, _, _, hfr, rfl⟩
            · exact τ.le_refl
            · exact St.le_setBox σ.le_refl hfr
        · have : j ≠ i := fun e => hqtl i hiq (e ▸ hj)
          simp [htl j hj, this]
        · cases al with
          | none => exact hal
          | some i' =>
            have hne : i' ≠ i := fun e => hqal i hiq (by simp [e])
            rcases hal with ⟨h3, h4⟩ | ⟨h3, b, T, l, h4, h5, h6, h7, h8⟩
            · exact .inl ⟨by simp [h3, hne], h4⟩
            · exact .inr ⟨by simp [h3], b, T, l, h4, h5, (hv' i' hne).trans h6, h7, h8⟩
      · refine hsimI G' val τ a w hcom hiq (fun x hx hxi => .inl ?_) _ (fun a' w' G'' val' hc' hv' => fin a' w' (.inr ⟨G'', val', τ, Fk, k, hc', fun j hj => by simp [t1 j hj], fun j hj => ?_, fun x hx h => by simp [t3 x hx h], fun j hj => by simp [t4 j hj], t5, fun t => ?_⟩))
        · cases hx2 : x.2 with
          | true => rfl
          | false => have := t3 x hx hx2; rw [hxi, hi0] at this; cases this
        · have : j ≠ i := fun e => hqtl i hiq (e ▸ List.mem_of_mem_drop hj)
          simp [t2 j hj, this]
        · rw [t6 t]
          refine slot_congr (fun j _ => ⟨rfl, fun _ => ?_⟩) t
          by_cases hj : j = i
          · subst hj
            have : inq j = true := hinq j hiq
            simp [this]
          · rw [hv' j hj]
    · -- a new variable
      cases al with
      | none => simp at hial
      | some i' =>
        have e : i = i' := by simpa using hial
        subst e
        rcases hI with ⟨G', val, τ, hcom, htl, hal⟩ | ⟨G', val, τ, Fk, k, hcom, t1, t2, t3, t4, t5, t6⟩
        · rcases hal with ⟨_, rfl⟩ | ⟨h3, _⟩
          · obtain ⟨k1, k2, k3, k4⟩ := hcom
            have hK2 := hK
            simp only [dtail] at hK2
            obtain ⟨o', ho', hK2⟩ := wo_inv hK2
            rw [ho] at ho'
            injection ho' with ho'
            subst ho'
            split at hK2
            · rename_i T t eop edst
              obtain ⟨htn, hK2⟩ := hK2
              obtain ⟨l, hl, _⟩ := wo_inv hK2
              have hg : o.guard = none := by
                have := List.all_eq_true.1 c5 i (by simp)
                rw [ho] at this
                simp only [Bool.and_eq_true] at this
                simpa using this.2
              change if Region.wanted o (yielded ops a.tmps) = true then o.wp P a w (fun a' w' => Inv (L.setIfInBounds i true) a' w') Q ∨ (o.asks P a w ∧ LetsOut Q) else Inv (L.setIfInBounds i true) (a.put o.dst undef) w
              rw [if_pos (by simp [Region.wanted, hg])]
              refine .inl (snd_alloc (F := slotOf ops F0 val E) (K := fun d τ' => ∃ b, d = .v (.pointer (some ⟨b, 0, none⟩)) ∧ Fresh τ b ∧ τ' = τ.setBox b (some (T, l.zero.map .v))) eop ?_ k2 k3 (fun v w' G'' d τ' e1 e2 e3 e4 => ?_))
              · simp only [aop, hl, wo]
                exact fun b hb => ⟨b, rfl, hb, rfl⟩
              · obtain ⟨b, rfl, hfr, rfl⟩ := e4
                refine fin _ _ (.inl ⟨G'', fun k => if k = i then .v (.pointer (some ⟨b, 0, none⟩)) else val k, _, ⟨Gh.le_trans k1 e1, e2, (k3.mono e1).slot_put hu ho hi0 (fun t' ht' => by rw [edst] at ht'; injection ht' with ht'; rw [← ht']; exact htn) e3, fun j hj hE => ?_⟩, fun j hj => ?_, .inr ⟨by simp, b, T, l, by rw [ho]; simp [eop], hl, by simp, hfr, rfl⟩⟩)
                · have hji : j ≠ i := fun e => hqal j hj (by simp [e])
                  simp only [if_neg hji]
                  simp only [Bool.or_eq_true, beq_iff_eq] at hE
                  exact k4 j hj (hE.resolve_right hji)
                · have : j ≠ i := fun e => haltl i (by simp) (e ▸ hj)
                  simp [htl j hj, this]
            · exact hK2.elim
          · rw [hi0] at h3; cases h3
        · have := t4 i (by simp); rw [hi0] at this; cases this
    · -- a change
      have step : InvB E a w → if Region.wanted o (yielded ops a.tmps) then o.wp P a w (fun a' w' => Inv (L.setIfInBounds i true) a' w') Q ∨ (o.asks P a w ∧ LetsOut Q) else Inv (L.setIfInBounds i true) (a.put o.dst undef) w := by
        rintro ⟨G', val, τ, Fk, k, ⟨k1, k2, k3, k4⟩, t1, t2, t3, t4, t5, t6⟩
        -- it is the first that isn't done
        have hik : i ∈ tl.drop k := by
          have : i ∈ tl.take k ++ tl.drop k := by rw [List.take_append_drop]; exact hitl
          rcases List.mem_append.1 this with h | h
          · have := t1 i h; rw [hi0] at this; cases this
          · exact h
        obtain ⟨r, hr⟩ : ∃ r, tl.drop k = i :: r := by
          cases hd : tl.drop k with
          | nil => rw [hd] at hik; cases hik
          | cons x r =>
            rw [hd] at hik
            rcases List.mem_cons.1 hik with rfl | hx
            · exact ⟨r, rfl⟩
            · -- i stands behind x: x is an ancestor
              exfalso
              obtain ⟨m, hm1⟩ := List.getElem?_of_mem hx
              have hd2 : tl.drop (k + 1 + m) = i :: (r.drop (m + 1)) := by
                have e1 : tl.drop (k + 1 + m) = r.drop m := by
                  rw [← List.drop_drop, ← List.drop_drop, hd]
                  rfl
                rw [e1]
                have hlt' := (List.getElem?_eq_some_iff.1 hm1).1
                rw [List.drop_eq_getElem_cons hlt']
                congr 1
                exact (List.getElem?_eq_some_iff.1 hm1).2
              obtain ⟨b', s', _, g2, _, _, _, g6⟩ := chkT_at tl _ _ (k + 1 + m) _ c6 hd2
              have hxm : x ∈ tl.take (k + 1 + m) := by
                rw [show k + 1 + m = k + (m + 1) by omega, List.take_add, hd]
                simp
              have h7 := anc_in hsh ops.size i x hdep (g6 x (g2 x hxm))
              rw [t2 x (by rw [hd]; simp)] at h7
              cases h7
        obtain ⟨b', s', g1, g2, g3, g4, ⟨o', g5, g5'⟩, g6⟩ := chkT_at tl _ _ k r c6 hr
        rw [ho] at g5
        injection g5 with g5
        subst g5
        rw [hr, opersOf_cons ho] at t5
        unfold aops at t5
        simp only [g5'] at t5
        rw [if_pos (by simp [Region.wanted, g5'])]
        have hs' : ∀ j, j < ops.size → (fun j => s'.contains j) j = !(tl.drop k).contains j := by
          intro j hj
          have h3 : s'.contains j = decide (j ∈ al.toList ++ q.map (·.1) ∨ j ∈ tl.take k) := by
            rw [Bool.eq_iff_iff]
            simpa using g3 j
          simp only [h3]
          have hsplit : ∀ x, x ∈ tl → (x ∈ tl.take k ↔ x ∉ tl.drop k) := by
            intro x hx
            have hnd : (tl.take k ++ tl.drop k).Nodup := by rw [List.take_append_drop]; exact hntl
            constructor
            · exact fun h1 h2 => (List.nodup_append.1 hnd).2.2 x h1 x h2 rfl
            · intro h1
              have : x ∈ tl.take k ++ tl.drop k := by rw [List.take_append_drop]; exact hx
              exact (List.mem_append.1 this).resolve_right h1
          rcases hcov j hj with h | h | h
          · have h1 : j ∉ tl.drop k := fun hd => hqtl j h (List.mem_of_mem_drop hd)
            have h2 : j ∈ al.toList ++ q.map (·.1) := List.mem_append_right _ h
            simp [h1, h2]
          · have h1 : j ∉ tl.drop k := fun hd => haltl j h (List.mem_of_mem_drop hd)
            have h2 : j ∈ al.toList ++ q.map (·.1) := List.mem_append_left _ h
            simp [h1, h2]
          · have h1 : j ∉ al.toList ++ q.map (·.1) := fun hh => by
              rcases List.mem_append.1 hh with hh | hh
              · exact haltl j hh h
              · exact hqtl j hh h
            have h2 := hsplit j h
            by_cases h3 : j ∈ tl.drop k
            · have h4 : j ∉ tl.take k := fun hh => (h2.1 hh) h3
              simp [h1, h3, h4]
            · simp [h1, h3, h2.2 h3]
        have hFk : ∀ t, Fk t = slotOf ops F0 (fun j => if inq j then dv j else val j) (fun j => s'.contains j) t := fun t => by
          rw [t6 t]
          exact slot_congr (fun j hj => ⟨(hs' j hj).symm, fun _ => rfl⟩) t
        have hval : ∀ j, s'.contains j = true → E j = true → val j = (fun j => if inq j then dv j else val j) j := fun j _ hE => by
          by_cases hj : inq j = true
          · simp only [hj, if_true]
            exact k4 j (hiff j hj) hE
          · simp [hj]
        have hsee := sees ho g4 hFk hval hsh hi0 hdep
        refine .inl (aop_sound (aop_congr hsee t5) k2 k3 (fun v w' G'' d τ' e1 e2 e3 e4 => fin _ _ (.inr ?_)))
        have hlt' : ∀ t, o.dst = some t → t < n := fun t ht => by rw [ht] at e4; exact e4.1
        have hnr : i ∉ r := by
          have : (tl.drop k).Nodup := hntl.sublist (List.drop_sublist k tl)
          rw [hr] at this
          exact (List.nodup_cons.1 this).1
        have hdr : tl.drop (k + 1) = r := by
          rw [← List.drop_drop, hr]
          rfl
        have htk : tl.take (k + 1) = tl.take k ++ [i] := by
          rw [List.take_add, hr]
          simp
        obtain ⟨F1, hF1, hF1'⟩ : ∃ F1, aops P n ops K (opersOf ops r) F1 τ' ∧ F1 = (match o.dst with | none => Fk | some t => upd Fk t d) := by
          cases hd : o.dst with
          | none => rw [hd] at e4; exact ⟨_, e4, rfl⟩
          | some t => rw [hd] at e4; exact ⟨_, e4.2, rfl⟩
        refine ⟨G'', fun j => if j = i then d else val j, τ', F1, k + 1, ⟨Gh.le_trans k1 e1, e2, (k3.mono e1).slot_put hu ho hi0 hlt' e3, fun j hj hE => ?_⟩, fun j hj => ?_, fun j hj => ?_, fun x hx h => by simp [t3 x hx h], fun j hj => by simp [t4 j hj], by rw [hdr]; exact hF1, fun t => ?_⟩
        · have hji : j ≠ i := fun e => hqtl j hj (e ▸ hitl)
          simp only [if_neg hji]
          simp only [Bool.or_eq_true, beq_iff_eq] at hE
          exact k4 j hj (hE.resolve_right hji)
        · rw [htk] at hj
          rcases List.mem_append.1 hj with hj | hj
          · simp [t1 j hj]
          · simp at hj; simp [hj]
        · rw [hdr] at hj
          have h3 : j ≠ i := fun e => hnr (e ▸ hj)
          simp [t2 j (by rw [hr]; simp [hj]), h3]
        · rw [hF1', hdr]
          have hdo : dstOf ops i = o.dst := by unfold dstOf; rw [ho]; rfl
          have hEi : (fun j => !(tl.drop k).contains j) i = false := by simp [hr]
          have hcg : full (fun j => if j = i then d else val j) r t = slotOf ops F0 (fun m => if m = i then d else (fun j => if inq j then dv j else val j) m) (fun m => (fun j => !(tl.drop k).contains j) m || m == i) t := by
            refine slot_congr (fun j _ => ⟨?_, fun _ => ?_⟩) t
            · rw [hr]
              by_cases hj : j = i
              · subst hj; simp [hnr]
              · have : (j == i) = false := by simpa using hj
                simp [List.contains_cons, this, hj]
            · by_cases hj : j = i
              · subst hj
                have : inq j = false := hninq j (fun h => hqtl j h hitl)
                simp [this]
              · simp [hj]
          rw [hcg]
          cases hd : o.dst with
          | none =>
            rw [slot_none (hdo.trans hd) d t]
            exact t6 t
          | some t0 =>
            rw [slot_put hu (hdo.trans hd) hEi d t]
            simp only [upd]
            split
            · rfl
            · exact t6 t
      rcases hI with hA | hB
      · refine step (switch E a w hA ?_ ?_)
        · intro x hx hx2
          obtain ⟨m, hm1⟩ := List.getElem?_of_mem hitl
          have hlt' := (List.getElem?_eq_some_iff.1 hm1).1
          have hd : tl.drop m = i :: tl.drop (m + 1) := by
            rw [List.drop_eq_getElem_cons hlt']
            congr 1
            exact (List.getElem?_eq_some_iff.1 hm1).2
          obtain ⟨b', s', g1, _, _, _, _, g6⟩ := chkT_at tl _ _ m _ c6 hd
          exact anc_in hsh ops.size i x.1 hdep (g6 x.1 (g1 x.1 (List.mem_append_left _ (List.mem_map.2 ⟨x, List.mem_filter.2 ⟨hx, by simp [hx2]⟩, rfl⟩))))
        · intro j hj
          obtain ⟨m, hm1⟩ := List.getElem?_of_mem hitl
          have hlt' := (List.getElem?_eq_some_iff.1 hm1).1
          have hd : tl.drop m = i :: tl.drop (m + 1) := by
            rw [List.drop_eq_getElem_cons hlt']
            congr 1
            exact (List.getElem?_eq_some_iff.1 hm1).2
          obtain ⟨b', s', g1, _, _, _, _, g6⟩ := chkT_at tl _ _ m _ c6 hd
          exact anc_in hsh ops.size i j hdep (g6 j (g1 j (List.mem_append_right _ hj)))
      · exact step hB
  · rintro L a w hL ⟨hsh, hI⟩ hr
    have hall : ∀ i, i < ops.size → (fun j => L.getD j false) i = true := by
      intro i hi
      induction i using Nat.strongRecOn with
      | _ i ih =>
        cases hc : L.getD i false with
        | true => exact hc
        | false =>
          have : i ∈ Region.ready .any ops L := by
            refine mem_ready.2 ⟨by simpa [hL, hi] using hc, ops[i], Array.getElem?_eq_getElem hi, fun e he hbd => ?_⟩
            have hb : e.on < i := by
              have := List.all_eq_true.1 c7 i (List.mem_range.2 hi)
              rw [Array.getElem?_eq_getElem hi] at this
              have h2 := List.all_eq_true.1 this e (by simpa using he)
              rw [hbd] at h2
              simpa using h2
            exact ih e.on hb (by omega)
          rw [hr] at this
          cases this
    have hlt : ∀ j, j ∈ q.map (·.1) ∨ j ∈ al.toList ∨ j ∈ tl → j < ops.size := by
      intro j hj
      have hc : chkI ops [] j = true ∨ ∃ s, chkI ops s j = true := by
        rcases hj with h | h | h
        · obtain ⟨⟨i', pu⟩, hmem, rfl⟩ := List.mem_map.1 h
          obtain ⟨F', seen', o', g1, g2, g3, g4, g5, g6⟩ := dqs_at (F0 := F0) hu q [] F0 (by simp) hnq (fun t => by unfold slotOf; cases wr ops t <;> simp) hdqs c4 hmem
          exact .inr ⟨_, g5⟩
        · have := List.all_eq_true.1 c5 j h
          simp only [Bool.and_eq_true] at this
          exact .inl this.1
        · obtain ⟨m, hm1⟩ := List.getElem?_of_mem h
          have hlt' := (List.getElem?_eq_some_iff.1 hm1).1
          have hd : tl.drop m = j :: tl.drop (m + 1) := by
            rw [List.drop_eq_getElem_cons hlt']
            congr 1
            exact (List.getElem?_eq_some_iff.1 hm1).2
          obtain ⟨b', s', g1, _, _, g4, _⟩ := chkT_at tl _ _ m _ c6 hd
          exact .inr ⟨_, g4⟩
      have : ∀ s, chkI ops s j = true → j < ops.size := fun s hs => by
        unfold chkI at hs
        cases ho : ops[j]? with
        | none => rw [ho] at hs; cases hs
        | some o => exact (Array.getElem?_eq_some_iff.1 ho).1
      rcases hc with h | ⟨s, h⟩
      · exact this _ h
      · exact this _ h
    have hB : InvB (fun j => L.getD j false) a w := by
      rcases hI with hA | hB
      · exact switch _ _ _ hA (fun x hx _ => hall x.1 (hlt x.1 (.inl (List.mem_map.2 ⟨x, hx, rfl⟩)))) (fun j hj => hall j (hlt j (.inr (.inl hj))))
      · exact hB
    obtain ⟨G', val, τ, Fk, k, ⟨k1, k2, k3, k4⟩, t1, t2, t3, t4, t5, t6⟩ := hB
    have hdr : tl.drop k = [] := by
      cases hd : tl.drop k with
      | nil => rfl
      | cons x r =>
        have h3 := t2 x (by rw [hd]; simp)
        have h4 : x ∈ tl := List.mem_of_mem_drop (by rw [hd]; simp)
        rw [hall x (hlt x (.inr (.inr h4)))] at h3
        cases h3
    rw [hdr] at t5 t6
    refine hQ a w G' Fk τ k1 k2 ?_ t5
    have e : Fk = slotOf ops F0 val (fun j => L.getD j false) := funext fun t => by
      rw [t6 t]
      refine slot_congr (fun j hj => ⟨by simpa using (hall j hj).symm, fun _ => ?_⟩) t
      by_cases hq : inq j = true
      · simp only [hq, if_true]
        exact (k4 j (hiff j hq) (hall j hj)).symm
      · simp [hq]
    rw [e]
    exact k3
  · unfold openOps
    exact Nat.le_trans (List.length_filter_le _ _) (by simp)
  · have hE : (fun j => (Array.replicate ops.size false).getD j false) = fun _ => false := by
      funext j
      simp only [Array.getD_eq_getD_getElem?, Array.getElem?_replicate]
      split <;> rfl
    refine ⟨fun k j hk => ?_, .inl ?_⟩
    · rw [show (Array.replicate ops.size false).getD k false = _ from congrFun hE k] at hk
      cases hk
    · rw [hE]
      refine ⟨G, fun _ => .any, σ, ⟨G.le_refl, hS.grow ⟨rfl, rfl, rfl, Nat.le_refl _, fun _ _ => rfl⟩, ?_, fun j _ h => by cases h⟩, fun _ _ => rfl, ?_⟩
      · have e : slotOf ops F0 (fun _ => .any) (fun _ => false) = F0 := funext fun t => by unfold slotOf; cases wr ops t <;> simp
        rw [e]
        exact hF
      · cases al with
        | none => rfl
        | some i => exact .inl ⟨rfl, rfl⟩
end
end Go.Proofs.Ytmpbofmhjjgccaa
