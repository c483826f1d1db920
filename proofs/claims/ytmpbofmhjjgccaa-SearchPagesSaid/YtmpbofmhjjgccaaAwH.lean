/-
  Operations as they are reasoned about: append, the builtins, calls; all operations.
-/
import Derived.Test.YtmpbofmhjjgccaaAwG
namespace Go.Proofs.Ytmpbofmhjjgccaa
open Go.RowKit
set_option linter.unusedVariables false
set_option linter.unusedSimpArgs false

section
variable {P : Program} {o : Oper} {a : Act} {F : Fr} {σ : St} {K : D → St → Prop} {n : Nat} {base w : World} {G : Gh} {next : Act → World → Prop} {Q : Exit → Act → World → Prop}
theorem run_append0 {t ty e : TypeId} {i : TypeInfo} (ht : P.underlying t = some (.slice e)) (hi : P.info? e = some i) (ba p : Option Addr) (m c c2 : Nat) (hm : m ≤ c) :
    (Builtin.append_ #[t, t] ty #[.slice ba m c, .slice p 0 c2]).run P w = .ok (.slice ba m c) w := by
  have hl : ∀ b : Addr, (loadCells b 0).run P w = .ok #[] w := fun b => by simp [loadCells, loadCellsFrom]
  have hs : ∀ b : Addr, (storeCells b []).run P w = .ok () w := fun b => by simp [storeCells]
  cases ba <;> cases p <;> simp [Builtin.append_, run_underlying ht, sizeOf, typeInfo, hi, Builtin.lenOf, Builtin.firstCells, hm, hl, hs]
/-- A slice of no elements, or none. -/
theorem Rep.empty {y : Value} {d : D} {nl : Bool} {tip : Option (Nat × Nat)} {full : Bool} {sz : Nat} (h : Rep G y d) (hd : d.list = some (nl, tip, full, sz, [])) : ∃ p c, y = .slice p 0 c := by
  rcases h.list_inv hd with ⟨_, _, rfl, _⟩ | h
  · exact ⟨none, 0, rfl⟩
  · cases h with
    | slice ad c _ _ _ _ vals hs hc hfull hsz hcell hrep htip => exact ⟨some ad, c, rfl⟩
theorem Rep.tipless {x : Value} {tip : Option (Nat × Nat)} {full : Bool} {sz : Nat} {ds : List (List D)} (h : Rep G x (.slice tip full sz ds)) : Rep G x (.slice none false sz ds) := by
  cases h with
  | slice ad c _ _ _ _ vals hs hc hfull hsz hcell hrep htip => exact .slice ad c none false sz ds vals hs hc (by simp) hsz hcell hrep (by simp)
theorem Rep.unfull {x : Value} {tip : Option (Nat × Nat)} {full : Bool} {sz : Nat} {ds : List (List D)} (h : Rep G x (.slice tip full sz ds)) : Rep G x (.slice tip false sz ds) := by
  cases h with
  | slice ad c _ _ _ _ vals hs hc hfull hsz hcell hrep htip => exact .slice ad c tip false sz ds vals hs hc (by simp) hsz hcell hrep htip
theorem Rep.sliceOf {x : Value} {dx : D} (hx : Rep G x dx) (hd1 : dx.isSl) : ∃ ba m c, x = .slice ba m c ∧ m ≤ c := by
  cases hx with
  | v u =>
    cases x <;> try (simp [D.isSl, D.list] at hd1; done)
    rename_i q k c
    rcases q with _ | q
    · rcases k with _ | k
      · rcases c with _ | c
        · exact ⟨none, 0, 0, rfl, Nat.le_refl _⟩
        · simp [D.isSl, D.list] at hd1
      · simp [D.isSl, D.list] at hd1
    · simp [D.isSl, D.list] at hd1
  | slice ad c _ _ _ _ vals hs hc hfull hsz hcell hrep htip => exact ⟨_, _, _, rfl, hc⟩
  | lst0 => exact ⟨_, _, _, rfl, Nat.le_refl _⟩
  | lst _ _ _ _ hx =>
    cases hx with
    | slice ad c _ _ _ _ vals hs hc hfull hsz hcell hrep htip => exact ⟨_, _, _, rfl, hc⟩
  | _ => simp [D.isSl, D.list] at hd1
theorem append_sound {t ty e : TypeId} {l le : LyI} {x y : Value} {dx dy : D} (hl : layOf P t = some l) (hkd : l.kd = .slice e) (hle : layOf P e = some le) (hS : Sim base w G σ) (hx : Rep G x dx) (hy : Rep G y dy) (h : aappend σ e le.size le.bytes dx dy K) :
    ∃ v w' G' d σ', (Builtin.append_ #[t, t] ty #[x, y]).run P w = .ok v w' ∧ G.le G' ∧ Sim base w' G' σ' ∧ Rep G' v d ∧ K d σ' := by
  obtain ⟨i, d, z, fl, hi, hd, hz, hfl, h1', h2', rfl⟩ := layOf_inv hl
  obtain ⟨i', d', z', fl', hi', hd', hz', hfl', h1'', h2'', rfl⟩ := layOf_inv hle
  have hd2 := kd_slice hkd
  subst hd2
  simp only at h
  -- a full list
  have fresh : ∀ (tip : Option (Nat × Nat)) (old new : List (List D)) (nl : Bool) (tip' : Option (Nat × Nat)) (full' : Bool) (K' : D → St → Prop), Rep G x (.slice tip true i'.size old) → dy.list = some (nl, tip', full', i'.size, new) → new ≠ [] → 0 < i'.size → (old.length + new.length) * i'.bytes ≤ 140737488355328 → old.length + new.length ≤ 140737488355328 →
      (∀ b cap, σ.box b = none → σ.tip b = none → old.length + new.length ≤ cap → K' (.slice (some (b, cap)) false i'.size (old ++ new)) (σ.setTip b (some (e, i'.size, cap, old.length + new.length)))) →
      ∃ v w' G' d σ', (Builtin.append_ #[t, t] ty #[x, y]).run P w = .ok v w' ∧ G.le G' ∧ Sim base w' G' σ' ∧ Rep G' v d ∧ K' d σ' := by
    intro tip old new nl tip' full' K' hrx hly hne hpos hb1 hb2 hk
    obtain ⟨b, off, c, us, rfl, hc, hf, hsz, hu, hul, hucell, hu1, _, _⟩ := hrx.cells_of hS
    have hcl := hf rfl
    subst hcl
    rcases hy.list_inv hly with ⟨_, _, _, h0⟩ | hry
    · exact absurd h0 hne
    · obtain ⟨b2, off2, c2, vs, rfl, hc2, _, hsz2, hv, hvl, hvcell, hv1, _, _⟩ := hry.cells_of hS
      have hpl : 0 < new.length := List.length_pos_iff.2 hne
      exact grow_fresh hd hi' hz' h2'' rfl rfl hS hS hsz hsz2 hu hv hu1 hv1 hul hvl hvcell (.inr ⟨⟨b, off, none⟩, old.length, rfl, by omega, hucell⟩) hpos hb1 hb2 hk
  have freshNil : ∀ (new : List (List D)) (nl : Bool) (tip' : Option (Nat × Nat)) (full' : Bool) (K' : D → St → Prop), x = .slice none 0 0 → dy.list = some (nl, tip', full', i'.size, new) → new ≠ [] → 0 < i'.size → new.length * i'.bytes ≤ 140737488355328 → new.length ≤ 140737488355328 →
      (∀ b cap, σ.box b = none → σ.tip b = none → new.length ≤ cap → K' (.slice (some (b, cap)) false i'.size new) (σ.setTip b (some (e, i'.size, cap, new.length)))) →
      ∃ v w' G' d σ', (Builtin.append_ #[t, t] ty #[x, y]).run P w = .ok v w' ∧ G.le G' ∧ Sim base w' G' σ' ∧ Rep G' v d ∧ K' d σ' := by
    intro new nl tip' full' K' hrx hly hne hpos hb1 hb2 hk
    subst hrx
    rcases hy.list_inv hly with ⟨_, _, _, h0⟩ | hry
    · exact absurd h0 hne
    · obtain ⟨b2, off2, c2, vs, rfl, hc2, _, hsz2, hv, hvl, hvcell, hv1, _, _⟩ := hry.cells_of hS
      have hpl : 0 < new.length := List.length_pos_iff.2 hne
      exact grow_fresh (old := []) (us := []) hd hi' hz' h2'' rfl rfl hS hS (by simp) hsz2 (RepL.nil G) hv (by simp) hv1 (by simp) hvl hvcell (.inl ⟨rfl, rfl, hpl⟩) hpos (by simpa using hb1) (by simpa using hb2) (by simpa using hk)
  unfold aappend at h
  split at h
  · -- nil
    rename_i nl tip full sz' new hly
    have hx0 := hx.v_inv
    by_cases hne : new = []
    · subst hne
      obtain ⟨p, c, rfl⟩ := hy.empty hly
      subst hx0
      exact ⟨_, w, G, _, σ, run_append0 hd hi' none p 0 0 c (Nat.le_refl _), G.le_refl, hS, .v _, h.1 rfl⟩
    · obtain ⟨rfl, hpos, hb1, hb2, hk⟩ := h.2 hne
      exact freshNil new nl tip full K hx0 hly hne hpos (by simpa using hb1) (by simpa using hb2) (fun b cap h1 h2 h3 => by
        have := hk b cap ⟨h1, h2⟩ (by simpa using h3)
        simpa using this)
  · -- it may grow
    rename_i b cap full sz'' old nl tip full' sz' new hly
    obtain ⟨htip, rfl, rfl, hpos, hb1, hb2, hk⟩ := h
    obtain ⟨g1, g2, g3, g4, g5, cur, g6, g7⟩ := hS.tip b _ _ _ _ htip
    obtain ⟨b', off, c, us, rfl, hc, hf, hsz, hu, hul, hucell, hu1, ht2, huG⟩ := hx.cells_of hS
    obtain ⟨rfl, rfl, rfl⟩ := ht2 b cap rfl
    by_cases hne : new = []
    · subst hne
      obtain ⟨p, c2, rfl⟩ := hy.empty hly
      refine ⟨_, w, G, _, _, run_append0 hd hi' _ p _ _ c2 hc, G.le_refl, ?_, ?_, hk b' c ⟨g2, upd_same _ _ _⟩ (by simpa using hc)⟩
      · rw [setTip_setTip]
        exact hS.newTip g1 g2 (by simpa using g3) g4 (by simpa using g5) g6 g7
      · rw [List.append_nil]
        exact hx.unfull
    · rcases hy.list_inv hly with ⟨_, _, _, h0⟩ | hry
      · exact absurd h0 hne
      · obtain ⟨b2, off2, c2, vs, rfl, hc2, _, hsz2, hv, hvl, hvcell, hv1, _, _⟩ := hry.cells_of hS
        by_cases hroom : old.length + new.length ≤ c
        · have hfit : old.length * i'.size + vs.length ≤ cur.size := by rw [hvl, g7, ← Nat.add_mul]; exact Nat.mul_le_mul_right _ hroom
          have hr := run_append_room (P := P) (ty := ty) w t e i' hd hi' b' old.length c cur g6 ⟨b2, off2, none⟩ new.length c2 vs hvl hvcell hv1 hroom hfit
          have hm := hS.more htip hroom cur g6 vs hvl hv1
          have hle' := Gh.le_more (G := G) g3 vs
          refine ⟨_, _, _, _, _, hr, hle', ?_, ?_, hk b' c ⟨g2, upd_same _ _ _⟩ hroom⟩
          · rw [setTip_setTip]
            exact hm
          · refine Rep.two rfl hroom rfl hsz hsz2 (hu.mono hle') (hv.mono hle') (fun k u hk' => ?_) (by intro b cap h; injection h with h; injection h with h h'; subst h; subst h'; exact ⟨rfl, rfl⟩)
            by_cases hlt : k < us.length
            · rw [List.getElem?_append_left hlt] at hk'
              exact hle' _ _ _ (huG k u hk')
            · rw [List.getElem?_append_right (by omega)] at hk'
              have h5 := (List.getElem?_eq_some_iff.1 hk').1
              have h6 : (b' = b' ∧ old.length * i'.size ≤ 0 + k ∧ 0 + k < old.length * i'.size + vs.length) := ⟨rfl, by omega, by omega⟩
              show (Gh.more G b' (old.length * i'.size) vs) b' (0 + k) = some u
              unfold Gh.more
              rw [if_pos h6, Nat.zero_add, ← hul]
              exact hk'
        · exact grow_fresh hd hi' hz' h2'' rfl rfl hS (hS.dropTip b') hsz hsz2 hu hv hu1 hv1 hul hvl hvcell (.inr ⟨⟨b', 0, none⟩, c, rfl, by omega, hucell⟩) hpos hb1 hb2 (fun b cap h1 h2 h3 => hk b cap ⟨h1, by show upd σ.tip b' none b = none; unfold upd; split <;> first | rfl | exact h2⟩ h3)
  · -- full
    rename_i sz'' old nl tip full' sz' new hly
    obtain ⟨rfl, h | ⟨hne, rfl, hpos, hb1, hb2, hk⟩⟩ := h
    · obtain ⟨hk, rfl, hpos, hb1, hb2⟩ := h
      by_cases hne : new = []
      · subst hne
        obtain ⟨p, c2, rfl⟩ := hy.empty hly
        obtain ⟨b, off, c, us, rfl, hc, _⟩ := hx.cells_of hS
        refine ⟨_, w, G, _, σ, run_append0 hd hi' _ p _ _ c2 hc, G.le_refl, hS, ?_, hk⟩
        rw [List.append_nil]
        exact hx.tipless
      · obtain ⟨v, w', G', d, σ', h1, h2, h3, h4, h5, h6⟩ := fresh none old new nl tip full' (fun d σ' => (∃ b cap, d = .slice (some (b, cap)) false i'.size (old ++ new)) ∧ σ.le σ' ∧ ∀ b x, σ.tip b = some x → σ.box b = none) hx hly hne hpos hb1 hb2 (fun b cap hbx htp _ => ⟨⟨b, cap, rfl⟩, ⟨fun _ _ h => h, fun b' x' hx' => by
          by_cases eb : b' = b
          · subst eb; rw [htp] at hx'; cases hx'
          · simpa [St.setTip, upd, eb] using hx'⟩, fun b' x' hx' => (hS.tip b' x'.1 x'.2.1 x'.2.2.1 x'.2.2.2 hx').2.1⟩)
        obtain ⟨b, cap, rfl⟩ := h5
        exact ⟨v, w', G', _, σ, h1, h2, h3.weaken h6.1 h6.2, h4.tipless, hk⟩
    · exact fresh none old new nl tip full' K hx hly hne hpos hb1 hb2 (fun b cap h1 h2 h3 => hk b cap ⟨h1, h2⟩ h3)
  · -- full, or nil
    rename_i sz'' old nl tip full' sz' new hly
    obtain ⟨rfl, h⟩ := h
    have hx2 : (x = .slice none 0 0 ∧ old = []) ∨ Rep G x (.slice none true i'.size old) := by
      rcases hx.list_inv (nl := true) (tip := none) (full := true) rfl with ⟨_, _, h1, h2⟩ | h
      · exact .inl ⟨h1, h2⟩
      · exact .inr h
    have both : ∀ (K' : D → St → Prop), new ≠ [] → sz' = i'.size → 0 < i'.size → (old.length + new.length) * i'.bytes ≤ 140737488355328 → old.length + new.length ≤ 140737488355328 →
        (∀ b cap, σ.box b = none → σ.tip b = none → old.length + new.length ≤ cap → K' (.slice (some (b, cap)) false i'.size (old ++ new)) (σ.setTip b (some (e, i'.size, cap, old.length + new.length)))) →
        ∃ v w' G' d σ', (Builtin.append_ #[t, t] ty #[x, y]).run P w = .ok v w' ∧ G.le G' ∧ Sim base w' G' σ' ∧ Rep G' v d ∧ K' d σ' := by
      intro K' hne hsz hpos hb1 hb2 hk
      subst hsz
      rcases hx2 with ⟨hx0, rfl⟩ | hx2
      · exact freshNil new nl tip full' K' hx0 hly hne hpos (by simpa using hb1) (by simpa using hb2) (by simpa using hk)
      · exact fresh none old new nl tip full' K' hx2 hly hne hpos hb1 hb2 hk
    rcases h with ⟨hk, hsz, hpos, hb1, hb2⟩ | ⟨hne, hsz, hpos, hb1, hb2, hk⟩
    · by_cases hne : new = []
      · subst hne
        obtain ⟨p, c2, rfl⟩ := hy.empty hly
        rw [List.append_nil] at hk
        rcases hx2 with ⟨rfl, rfl⟩ | hx2
        · exact ⟨_, w, G, _, σ, run_append0 hd hi' none p 0 0 c2 (Nat.le_refl _), G.le_refl, hS, .lst0 _ _, hk⟩
        · obtain ⟨b, off, c, us, rfl, hc, _⟩ := hx2.cells_of hS
          exact ⟨_, w, G, _, σ, run_append0 hd hi' _ p _ _ c2 hc, G.le_refl, hS, .lst _ _ _ _ hx2.tipless, hk⟩
      · obtain ⟨v, w', G', d, σ', h1, h2, h3, h4, h5, h6⟩ := both (fun d σ' => (∃ b cap, d = .slice (some (b, cap)) false i'.size (old ++ new)) ∧ σ.le σ' ∧ ∀ b x, σ.tip b = some x → σ.box b = none) hne hsz hpos hb1 hb2 (fun b cap hbx htp _ => ⟨⟨b, cap, rfl⟩, ⟨fun _ _ h => h, fun b' x' hx' => by
          by_cases eb : b' = b
          · subst eb; rw [htp] at hx'; cases hx'
          · simpa [St.setTip, upd, eb] using hx'⟩, fun b' x' hx' => (hS.tip b' x'.1 x'.2.1 x'.2.2.1 x'.2.2.2 hx').2.1⟩)
        obtain ⟨b, cap, rfl⟩ := h5
        exact ⟨v, w', G', _, σ, h1, h2, h3.weaken h6.1 h6.2, .lst _ _ _ _ h4.tipless, hk⟩
    · exact both K hne hsz hpos hb1 hb2 (fun b cap h1 h2 h3 => hk b cap ⟨h1, h2⟩ h3)
  · -- behind it nothing
    rename_i hly
    split at h
    · obtain ⟨hd1, hk⟩ := h
      have hy0 := hy.v_inv
      subst hy0
      obtain ⟨ba, m, c, rfl, hmc⟩ := hx.sliceOf hd1
      exact ⟨_, w, G, _, σ, run_append0 hd hi' ba none m c 0 hmc, G.le_refl, hS, hx, hk⟩
    · exact h.elim
  · exact h.elim
/-! ### The builtins, the calls -/
theorem snd_fn {f : FuncId} {fn : Func} {args : Array Value} {ds : List D} (hrun : (execOp a.eval o).run P w = .ok (.enter f args) w) (hS : Sim base w G σ) (hA : RepL G args.toList ds) (h : Tri P f ds σ K) (hK : Nxt base G a o.dst K next) : o.wp P a w next Q := by
  unfold Oper.wp
  rw [hrun, Oper.upon_enter]
  have := h base w G args.toList hS hA
  rw [Array.toArray_toList] at this
  refine this.mono fun ev w' hh => ?_
  obtain ⟨v, d, σ', G', rfl, h1, h2, h3, h4⟩ := hh
  exact hK v w' G' d σ' h1 h2 h3 h4
theorem snd_builtin {b : Builtin} {c : Call} (ho : o.op = .call c) (hc : c.callee = .builtin b) {v : Value} {w' : World} {G' : Gh} {d : D} {σ' : St} (hrun : (builtin b c.argTypes o.type (c.args.map fun | .const _ => true | _ => false) (c.args.map a.eval)).run P w = .ok (.value v) w')
    (h1 : G.le G') (h2 : Sim base w' G' σ') (h3 : Rep G' v d) (h4 : K d σ') (hK : Nxt base G a o.dst K next) : o.wp P a w next Q := by
  refine wp_runI (w' := w') v ?_ (hK v w' G' d σ' h1 h2 h3 h4)
  obtain ⟨callee, args, tys⟩ := c
  simp only at hc
  subst hc
  unfold execOp
  simp only [ho, resolve, Sem.run_bind, Sem.run_pure, Result.andThen_ok, invoke]
  exact hrun
theorem args1 {c : Call} {d : D} (h : c.args.toList.map (ev F) = [d]) : ∃ x, c.args = #[x] ∧ ev F x = d := by
  obtain ⟨x, xs, h1, h2, h3⟩ := List.map_eq_cons_iff.1 h
  have : xs = [] := List.map_eq_nil_iff.1 h3
  subst this
  exact ⟨x, by rw [← Array.toArray_toList (xs := c.args), h1], h2⟩
theorem args2 {c : Call} {d e : D} (h : c.args.toList.map (ev F) = [d, e]) : ∃ x y, c.args = #[x, y] ∧ ev F x = d ∧ ev F y = e := by
  obtain ⟨x, xs, h1, h2, h3⟩ := List.map_eq_cons_iff.1 h
  obtain ⟨y, ys, h4, h5, h6⟩ := List.map_eq_cons_iff.1 h3
  have : ys = [] := List.map_eq_nil_iff.1 h6
  subst this
  exact ⟨x, y, by rw [← Array.toArray_toList (xs := c.args), h1, h4], h2, h5⟩
theorem types1 {c : Call} {t : TypeId} (h : c.argTypes.toList = [t]) : c.argTypes = #[t] := by rw [← Array.toArray_toList (xs := c.argTypes), h]
theorem types2 {c : Call} {t t' : TypeId} (h : c.argTypes.toList = [t, t']) : c.argTypes = #[t, t'] := by rw [← Array.toArray_toList (xs := c.argTypes), h]
theorem Rep.len_of {x : Value} {d : D} {nl : Bool} {tip : Option (Nat × Nat)} {full : Bool} {sz : Nat} {ds : List (List D)} (h : Rep G x d) (hd : d.list = some (nl, tip, full, sz, ds)) : ∃ p c, x = .slice p ds.length c := by
  rcases h.list_inv hd with ⟨_, _, rfl, rfl⟩ | h
  · exact ⟨none, 0, rfl⟩
  · cases h with
    | slice ad c _ _ _ _ vals hs hc hfull hsz hcell hrep htip => exact ⟨_, _, rfl⟩
theorem snd_call {c : Call} (ho : o.op = .call c) (h : aop P o.type F σ K (.call c)) (hS : Sim base w G σ) (hF : FrRep G a n F) (hK : Nxt base G a o.dst K next) : o.wp P a w next Q := by
  simp only [aop] at h
  split at h
  · rename_i x hc
    have hev := hF.ev x
    obtain ⟨callee, args, tys⟩ := c
    simp only at hc
    subst hc
    have hl := evL hF args.toList
    have e0 : args.map a.eval = (args.toList.map a.eval).toArray := by rw [← Array.toList_map, Array.toArray_toList]
    split at h
    · rename_i f fs cs hx
      rw [hx] at hev
      obtain ⟨rfl, rfl, ⟨fn, hf, hn, hb⟩, h⟩ := h
      refine snd_fn (fn := fn) (args := args.map a.eval) ?_ hS (by rw [Array.toList_map]; exact hl) h hK
      unfold execOp
      simp [ho, resolve, hev.v_inv, Deferred.ofValue, invoke, run_enterI hf hn hb]
    · rename_i f caps hx
      rw [hx] at hev
      obtain ⟨⟨fn, hf, hn, hb⟩, h⟩ := h
      generalize hy : a.eval x = y at hev
      cases hev with
      | func _ vs _ hlen hrep =>
        refine snd_fn (fn := fn) (args := args.map a.eval ++ vs.toArray) ?_ hS ?_ h hK
        · unfold execOp
          simp [ho, resolve, hy, Deferred.ofValue, invoke, run_enterI hf hn hb]
        · rw [Array.toList_append, Array.toList_map]
          refine ⟨by simp [hlen], fun k u e h1 h2 => ?_⟩
          by_cases hk : k < (args.toList.map a.eval).length
          · rw [List.getElem?_append_left hk] at h1
            rw [List.getElem?_append_left (by rw [← hl.len]; exact hk)] at h2
            exact hl.rep k u e h1 h2
          · rw [List.getElem?_append_right (by omega)] at h1
            rw [List.getElem?_append_right (by rw [← hl.len]; omega), ← hl.len] at h2
            exact hrep _ u e h1 h2
    · exact h.elim
  · rename_i b hc
    unfold abuiltin at h
    split at h
    · rename_i t tip full sz ds ht hd
      obtain ⟨hl0, hk⟩ := h
      obtain ⟨l, hl, hkd⟩ := wo_inv hl0
      obtain ⟨e, hkd⟩ := Option.isSome_iff_exists.1 hkd
      replace hkd := Kd.sl_inv hkd
      obtain ⟨x, hx, hxd⟩ := args1 hd
      obtain ⟨i, d, z, fl, hi, hd', hz, hfl, h1', h2', rfl⟩ := layOf_inv hl
      have hd2 := kd_slice hkd
      subst hd2
      have hev := hF.ev x
      obtain ⟨p, cc, hxv⟩ := hev.len_of (by rw [hxd]; rfl)
      refine snd_builtin ho hc (v := .int .i64 ds.length) ?_ G.le_refl hS (.v _) hk hK
      simp [hx, types1 ht, builtin, Builtin.len_, run_underlying hd', hxv, goInt]
    · rename_i t full sz ds ht hd
      obtain ⟨hl0, hk⟩ := h
      obtain ⟨l, hl, hkd⟩ := wo_inv hl0
      obtain ⟨e, hkd⟩ := Option.isSome_iff_exists.1 hkd
      replace hkd := Kd.sl_inv hkd
      obtain ⟨x, hx, hxd⟩ := args1 hd
      obtain ⟨i, d, z, fl, hi, hd', hz, hfl, h1', h2', rfl⟩ := layOf_inv hl
      have hd2 := kd_slice hkd
      subst hd2
      have hev := hF.ev x
      obtain ⟨p, cc, hxv⟩ := hev.len_of (by rw [hxd]; rfl)
      refine snd_builtin ho hc (v := .int .i64 ds.length) ?_ G.le_refl hS (.v _) hk hK
      simp [hx, types1 ht, builtin, Builtin.len_, run_underlying hd', hxv, goInt]
    · rename_i t ht hd
      obtain ⟨hl0, hk⟩ := h
      obtain ⟨l, hl, hkd⟩ := wo_inv hl0
      obtain ⟨e, hkd⟩ := Option.isSome_iff_exists.1 hkd
      replace hkd := Kd.sl_inv hkd
      obtain ⟨x, hx, hxd⟩ := args1 hd
      obtain ⟨i, d, z, fl, hi, hd', hz, hfl, h1', h2', rfl⟩ := layOf_inv hl
      have hd2 := kd_slice hkd
      subst hd2
      have hev := hF.ev x
      rw [hxd] at hev
      refine snd_builtin ho hc (v := .int .i64 0) ?_ G.le_refl hS (.v _) hk hK
      simp [hx, types1 ht, builtin, Builtin.len_, run_underlying hd', hev.v_inv, goInt]
    · rename_i t s ht hd
      obtain ⟨hl0, hk⟩ := h
      obtain ⟨l, hl, hkd⟩ := wo_inv hl0
      replace hkd := Kd.str_inv hkd
      obtain ⟨x, hx, hxd⟩ := args1 hd
      obtain ⟨i, d, z, fl, hi, hd', hz, hfl, h1', h2', rfl⟩ := layOf_inv hl
      have hd2 := kd_str hkd
      subst hd2
      have hev := hF.ev x
      rw [hxd] at hev
      refine snd_builtin ho hc (v := .int .i64 s.size) ?_ G.le_refl hS (.v _) hk hK
      simp [hx, types1 ht, builtin, Builtin.len_, run_underlying hd', hev.v_inv, goInt]
    · rename_i t t' dx dy ht hd
      obtain ⟨rfl, h⟩ := h
      replace h := wo_inv h
      obtain ⟨l, hl, h⟩ := h
      replace h := wo_inv h
      obtain ⟨e, hkd, h⟩ := h
      replace h := wo_inv h
      obtain ⟨le, hle, h⟩ := h
      replace hkd := Kd.sl_inv hkd
      obtain ⟨x, y, hxy, hxd, hyd⟩ := args2 hd
      have hx := hF.ev x
      have hy := hF.ev y
      rw [hxd] at hx
      rw [hyd] at hy
      obtain ⟨v, w', G', d, σ', hr, h1, h2, h3, h4⟩ := append_sound (ty := o.type) hl hkd hle hS hx hy h
      refine snd_builtin ho hc (v := v) ?_ h1 h2 h3 h4 hK
      simp [hxy, types2 ht, builtin, hr]
    · rename_i k p k' q hd
      obtain ⟨rfl, hk⟩ := h
      obtain ⟨x, y, hxy, hxd, hyd⟩ := args2 hd
      have hx := hF.ev x
      have hy := hF.ev y
      rw [hxd] at hx
      rw [hyd] at hy
      refine snd_builtin ho hc (v := .int k (max p q)) ?_ G.le_refl hS (.v _) hk hK
      have e : (if q > p then q else p) = max p q := by split <;> omega
      simp [hxy, builtin, Builtin.max_, Builtin.max2, hx.v_inv, hy.v_inv, e]
    · rename_i k p k' q hd
      obtain ⟨rfl, hk⟩ := h
      obtain ⟨x, y, hxy, hxd, hyd⟩ := args2 hd
      have hx := hF.ev x
      have hy := hF.ev y
      rw [hxd] at hx
      rw [hyd] at hy
      refine snd_builtin ho hc (v := .int k (min p q)) ?_ G.le_refl hS (.v _) hk hK
      have e : (if q < p then q else p) = min p q := by split <;> omega
      simp [hxy, builtin, Builtin.min_, Builtin.min2, hx.v_inv, hy.v_inv, e]
    · exact h.elim
  · exact h.elim
/-- Each operation does what is reasoned. -/
theorem aop_sound (h : aop P o.type F σ K o.op) (hS : Sim base w G σ) (hF : FrRep G a n F) (hK : Nxt base G a o.dst K next) : o.wp P a w next Q := by
  cases ho : o.op with
  | move x => rw [ho] at h; exact snd_move ho h hS hF hK
  | assign x => rw [ho] at h; exact snd_assign ho h hS hF hK
  | pick c x y => rw [ho] at h; exact snd_pick ho h hS hF hK
  | alloc t => rw [ho] at h; exact snd_alloc ho h hS hF hK
  | box t x => rw [ho] at h; exact snd_box ho h hS hF hK
  | build t ps => rw [ho] at h; exact snd_build ho h hS hF hK
  | buildSlice t m ps => rw [ho] at h; exact snd_buildSlice ho h hS hF hK
  | load t x => rw [ho] at h; exact snd_load ho h hS hF hK
  | store t x y => rw [ho] at h; exact snd_store ho h hS hF hK
  | nilCheck x => rw [ho] at h; exact snd_nilCheck ho h hS hF hK
  | binOp op t x y ty => rw [ho] at h; exact snd_bin ho h hS hF hK
  | unOp op t x => rw [ho] at h; exact snd_un ho h hS hF hK
  | makeInterface t x => rw [ho] at h; exact snd_iface ho h hS hF hK
  | makeFunc fn first caps => rw [ho] at h; exact snd_makeFunc ho h hS hF hK
  | slice t x lo hi mx => rw [ho] at h; exact snd_slice ho h hS hF hK
  | fieldAddr s x f => rw [ho] at h; exact snd_fieldAddr ho h hS hF hK
  | field s x f => rw [ho] at h; exact snd_field ho h hS hF hK
  | indexAddr t x ix => rw [ho] at h; exact snd_indexAddr ho h hS hF hK
  | index t x ix => rw [ho] at h; exact snd_index ho h hS hF hK
  | extract x k => rw [ho] at h; exact snd_extract ho h hS hF hK
  | call c => rw [ho] at h; exact snd_call ho h hS hF hK
  | _ => rw [ho] at h; exact h.elim
end
end Go.Proofs.Ytmpbofmhjjgccaa
