/-
  Operations as they are reasoned about: reads, stores, numbers, texts.
-/
import Derived.Test.YtmpbofmhjjgccaaAwD
import Derived.Laws.StructEq
namespace Go.Proofs.Ytmpbofmhjjgccaa
open Go.RowKit
set_option linter.unusedVariables false
set_option linter.unusedSimpArgs false

section
variable {P : Program} {o : Oper} {a : Act} {F : Fr} {σ : St} {K : D → St → Prop} {n : Nat} {base w : World} {G : Gh} {next : Act → World → Prop} {Q : Exit → Act → World → Prop}
theorem aload_sound {t : TypeId} {l : LyI} (hl : layOf P t = some l) {b off : Nat} {vs : List Value} {cs : List D} (hr : RepL G vs cs) (h1 : ∀ y ∈ vs, y.oneCell' = true) (hc : ∀ j v, vs[j]? = some v → w.cell? ⟨b, off + j, none⟩ = some v) {K' : D → Prop} (h : aload l cs K') :
    ∃ v d, (loadVar t ⟨b, off, none⟩).run P w = .ok v w ∧ Rep G v d ∧ K' d := by
  obtain ⟨i, d, z, fl, hi, hd, hz, hfl, h1', h2', rfl⟩ := layOf_inv hl
  unfold aload at h
  cases hag : aggOf d with
  | true =>
    simp only [hag] at h
    obtain ⟨hs, hk⟩ := h
    have hlen : (vs.take i.size).length = i.size := by rw [List.length_take, hr.len]; omega
    refine ⟨.agg (vs.take i.size).toArray, _, run_loadVar_agg hd hag hi b off (vs.take i.size) hlen w (fun j v hv => ?_), ?_, hk⟩
    · rw [List.getElem?_take] at hv
      split at hv
      · exact hc j v hv
      · cases hv
    · refine .agg _ _ (by rw [List.length_take, List.length_take, hr.len]) (fun y hy => h1 y (List.mem_of_mem_take hy)) (fun k x d' hx hd' => ?_)
      rw [List.getElem?_take] at hx hd'
      split at hx
      · rename_i hk'
        rw [if_pos hk'] at hd'
        exact hr.rep k x d' hx hd'
      · cases hx
  | false =>
    simp only [hag] at h
    cases cs with
    | nil => exact h.elim
    | cons e es =>
      obtain ⟨x, xs, rfl, hx, _⟩ := hr.inv
      exact ⟨x, e, run_loadVar_one hd hag (hc 0 x rfl), hx, h⟩
theorem snd_load {t : TypeId} {x : Operand} (ho : o.op = .load t x) (h : aop P o.type F σ K (.load t x)) (hS : Sim base w G σ) (hF : FrRep G a n F) (hK : Nxt base G a o.dst K next) : o.wp P a w next Q := by
  simp only [aop] at h
  replace h := wo_inv h
  obtain ⟨l, hl, h⟩ := h
  have fin : ∀ (b off : Nat) (v : Value) (d : D), a.eval x = .pointer (some ⟨b, off, none⟩) → (loadVar t ⟨b, off, none⟩).run P w = .ok v w → Rep G v d → K d σ → o.wp P a w next Q := fun b off v d he hrun hr hk =>
    wp_loadI t x ⟨b, off, none⟩ v ho he hrun (hK v w G d σ G.le_refl hS hr hk)
  have hev := hF.ev x
  split at h
  · rename_i cs hx
    rw [hx] at hev
    generalize a.eval x = y at hev fin
    cases hev with
    | ptr ad _ vals hs hcell hrep =>
      obtain ⟨b, off, sp⟩ := ad
      simp only at hs
      subst hs
      have hr : RepL G ((List.range cs.length).map vals) cs := ⟨by simp, fun k u e h1 h2 => by
        rw [List.getElem?_map] at h1
        have hk : k < cs.length := (List.getElem?_eq_some_iff.1 h2).1
        rw [List.getElem?_range hk] at h1
        simp at h1
        subst h1
        exact hrep k e h2⟩
      have hd := fun k (hk : k < cs.length) => hS.data b (off + k) (vals k) (hcell k hk)
      obtain ⟨v, d, h1, h2, h3⟩ := aload_sound hl hr (fun y hy => by
        obtain ⟨k, hk, rfl⟩ := List.mem_map.1 hy
        exact (hd k (List.mem_range.1 hk)).2) (fun j v hv => by
        rw [List.getElem?_map] at hv
        obtain ⟨q, hq, rfl⟩ := Option.map_eq_some_iff.1 hv
        have hq' := List.getElem?_eq_some_iff.1 hq
        obtain ⟨hlt, he⟩ := hq'
        simp at he hlt
        subst he
        exact (hd j hlt).1) h
      exact fin b off v d rfl h1 h2 h3
  · rename_i b off hx
    rw [hx] at hev
    have he := hev.v_inv
    split at h
    · rename_i T cs hb
      obtain ⟨g1, g2, vs, g3, g4, g5⟩ := hS.box b T cs hb
      obtain ⟨v, d, h1, h2, h3⟩ := aload_sound (b := b) (off := off) (w := w) hl (vs := vs.drop off) (cs := cs.drop off) ⟨by simp [g4.len], fun k u e h1 h2 => by
        rw [List.getElem?_drop] at h1 h2
        exact g4.rep _ u e h1 h2⟩ (fun y hy => g5 y (List.mem_of_mem_drop hy)) (fun j v hv => by
        rw [List.getElem?_drop] at hv
        rw [blk_cell g3, List.getElem?_toArray]
        exact hv) h
      exact fin b off v d he h1 h2 h3
    · exact h.elim
  · exact h.elim
theorem snd_store {t : TypeId} {x y : Operand} (ho : o.op = .store t x y) (h : aop P o.type F σ K (.store t x y)) (hS : Sim base w G σ) (hF : FrRep G a n F) (hK : Nxt base G a o.dst K next) : o.wp P a w next Q := by
  simp only [aop] at h
  replace h := wo_inv h
  obtain ⟨l, hl, h⟩ := h
  obtain ⟨i, d, z, fl, hi, hd, hz, hfl, h1', h2', rfl⟩ := layOf_inv hl
  have hev := hF.ev x
  split at h
  · rename_i b off hx
    rw [hx] at hev
    have he := hev.v_inv
    split at h
    · rename_i T cs hb
      replace h := wo_inv h
      obtain ⟨xs, hxs, hlen, hle, hk⟩ := h
      obtain ⟨g1, g2, vs, g3, g4, g5⟩ := hS.box b T cs hb
      obtain ⟨r1, r2⟩ := D.cells_rep (hF.ev y) hxs
      have hst := run_storeVar_any (P := P) (t := t) hi b off T vs (a.eval y) (r1.len.trans hlen) w g3 (by rw [r1.len, g4.len]; exact hle) r2
      have hrun : (execOp a.eval o).run P w = .ok .skip (w.setRow b (vs.take off ++ (a.eval y).cells.toList ++ vs.drop (off + (a.eval y).cells.toList.length)).toArray) := by
        unfold execOp
        simp only [ho, he, Instr.storeAt, Instr.sureAddr, Sem.run_bind, Sem.run_pure, Result.andThen_ok, hst]
      refine wp_skipI hrun (hK _ _ G .any _ G.le_refl ?_ (.any _) hk)
      exact hS.setBox hb _ _ (g4.dput r1 off) (one_dput g5 r2 off)
    · exact h.elim
  · exact h.elim
theorem snd_nilCheck {x : Operand} (ho : o.op = .nilCheck x) (h : aop P o.type F σ K (.nilCheck x)) (hS : Sim base w G σ) (hF : FrRep G a n F) (hK : Nxt base G a o.dst K next) : o.wp P a w next Q := by
  have hev := hF.ev x
  simp only [aop] at h
  split at h
  · rename_i cs hx
    rw [hx] at hev
    generalize hy : a.eval x = y at hev
    cases hev with
    | ptr ad _ vals hs hcell hrep => exact wp_nilI x ad ho hy (hK _ _ G _ _ G.le_refl hS (.ptr ad cs vals hs hcell hrep) h)
  · rename_i ad hx
    rw [hx] at hev
    exact wp_nilI x ad ho hev.v_inv (hK _ _ G _ _ G.le_refl hS (.v _) h)
  · exact h.elim
theorem beq_bytes (a b : ByteArray) : (a.toList == b.toList) = decide (a = b) := by
  rw [ByteArray.toList_eq, ByteArray.toList_eq, Bool.eq_iff_iff, beq_iff_eq, decide_eq_true_eq]
  exact ⟨fun h => WideShapes.bytes_inj h, fun h => by rw [h]⟩
theorem aint_sound {op : BinOp} {k : IntKind} {p q : Int} {t : TypeId} {K' : D → Prop} (h : aint op k p q K') : ∃ v, (binOp op t (.int k p) (.int k q)).run P w = .ok v w ∧ K' (.v v) := by
  cases op <;> simp only [aint] at h <;> first
    | exact h.elim
    | (refine ⟨_, ?_, h⟩; simp [binOp, Op.intArith]; done)
    | (refine ⟨_, ?_, h.2⟩; simp [binOp, Op.intDiv, h.1]; done)
    | (refine ⟨_, ?_, h⟩; simp [binOp, Op.intCmp]; done)
    | (refine ⟨_, ?_, h⟩; simp [binOp, Op.intCmp, bne]; done)
    | (refine ⟨_, ?_, h⟩; simp only [binOp, Op.intCmp, if_neg, ne_eq, not_true_eq_false, if_false, Sem.run_pure]; rfl)
theorem astr_sound {op : BinOp} {p q : ByteArray} {t : TypeId} {K' : D → Prop} (h : astr op p q K') : ∃ v, (binOp op t (.string p) (.string q)).run P w = .ok v w ∧ K' (.v v) := by
  cases op <;> simp only [astr] at h <;> first
    | exact h.elim
    | (refine ⟨_, ?_, h⟩; simp [binOp, Op.stringOp, beq_bytes]; done)
    | (refine ⟨_, ?_, h.2⟩
       have h9 : ¬ (((p.size + q.size : Nat) : Int) > IntKind.i64.max) := by
         have : IntKind.i64.max = 9223372036854775807 := by decide
         rw [this]; have := h.1; omega
       simp only [binOp, Op.stringOp, if_neg h9, Sem.run_pure])
theorem guard_plain {op : BinOp} {t : TypeId} {x y : Operand} {p q : Value} (h : match p, q with | .nilIface, .nilIface => False | .agg _, .agg _ => False | _, _ => True) : (eqGuard op t x y p q).run P w = .ok () w := by
  unfold eqGuard
  cases p <;> cases q <;> first
    | exact h.elim
    | (cases op <;> simp)
theorem eq_nilnil {t : TypeId} {ms : Array (String × TypeId)} (hd : P.underlying t = some (.interface ms)) : (Op.equal t .nilIface .nilIface).run P w = .ok true w := by
  unfold Op.equal Op.maxDepth
  rw [show (10000 : Nat) = 9999 + 1 from rfl, Op.equalIn]
  simp only [Sem.run_bind, run_underlying hd, Result.andThen_ok, Sem.run_pure]
theorem eq_held {t u : TypeId} {x : Value} {ms : Array (String × TypeId)} (hd : P.underlying t = some (.interface ms)) : (Op.equal t (.iface u x) .nilIface).run P w = .ok false w := by
  unfold Op.equal Op.maxDepth
  rw [show (10000 : Nat) = 9999 + 1 from rfl, Op.equalIn]
  simp only [Sem.run_bind, run_underlying hd, Result.andThen_ok, Sem.run_pure]
theorem eq_bools {t : TypeId} {p q : Bool} (hd : P.underlying t = some .bool) : (Op.equal t (.bool p) (.bool q)).run P w = .ok (p == q) w := by
  unfold Op.equal Op.maxDepth
  rw [show (10000 : Nat) = 9999 + 1 from rfl, Op.equalIn]
  simp only [Sem.run_bind, run_underlying hd, Result.andThen_ok, Sem.run_pure]
theorem Rep.agg_inv {x : Value} {vs : List Value} (h : Rep G x (.agg (vs.map D.v))) : x = .agg vs.toArray := by
  generalize hcs : vs.map D.v = cs at h
  cases h with
  | agg us _ hl h1 hrep =>
    subst hcs
    have : us = vs := by
      rw [List.length_map] at hl
      refine List.ext_getElem hl (fun k h1 h2 => ?_)
      exact (hrep k us[k] (.v vs[k]) (List.getElem?_eq_getElem h1) (by rw [List.getElem?_map, List.getElem?_eq_getElem h2]; rfl)).v_inv
    rw [this]
theorem snd_bin {op : BinOp} {t : TypeId} {x y : Operand} {ty : TypeId} (ho : o.op = .binOp op t x y ty) (h : aop P o.type F σ K (.binOp op t x y ty)) (hS : Sim base w G σ) (hF : FrRep G a n F) (hK : Nxt base G a o.dst K next) : o.wp P a w next Q := by
  have hx := hF.ev x
  have hy := hF.ev y
  simp only [aop, abin] at h
  have fin : ∀ (p q : Value) (v : Value) (d : D), a.eval x = p → a.eval y = q → (eqGuard op t x y p q).run P w = .ok () w → (binOp op t p q).run P w = .ok v w → Rep G v d → K d σ → o.wp P a w next Q := fun p q v d h1 h2 h3 h4 h5 h6 =>
    wp_binI op t x y ty p q v ho h1 h2 (by simp [h3, h4]) (hK v w G d σ G.le_refl hS h5 h6)
  split at h
  · rename_i k p k' q e1 e2
    rw [e1] at hx; rw [e2] at hy
    obtain ⟨rfl, h⟩ := h
    obtain ⟨v, hv, hk⟩ := aint_sound (P := P) (w := w) (t := t) h
    exact fin _ _ v _ hx.v_inv hy.v_inv (guard_plain trivial) hv (.v v) hk
  · rename_i p q e1 e2
    rw [e1] at hx; rw [e2] at hy
    obtain ⟨v, hv, hk⟩ := astr_sound (P := P) (w := w) (t := t) h
    exact fin _ _ v _ hx.v_inv hy.v_inv (guard_plain trivial) hv (.v v) hk
  · rename_i e1 e2
    rw [e1] at hx; rw [e2] at hy
    obtain ⟨hlit, hl0, h⟩ := h
    obtain ⟨l, hl, hkd⟩ := wo_inv hl0
    obtain ⟨b, hkd⟩ := Kd.ifc_inv hkd
    obtain ⟨i, d, z, fl, hi, hd, hz, hfl, h1', h2', rfl⟩ := layOf_inv hl
    obtain ⟨ms, rfl, rfl⟩ := kd_iface hkd
    have hg : (eqGuard op t x y .nilIface .nilIface).run P w = .ok () w := by
      cases x <;> cases y <;> first
        | (simp [isLit] at hlit; done)
        | (unfold eqGuard; cases op <;> simp; done)
    cases op <;> simp only at h <;> first
      | exact h.elim
      | (refine fin _ _ _ _ hx.v_inv hy.v_inv hg ?_ (.v _) h; simp only [binOp, Sem.run_bind, eq_nilnil hd, Result.andThen_ok, Sem.run_pure, Bool.not_true]; done)
  · rename_i u d' e1 e2
    rw [e1] at hx; rw [e2] at hy
    obtain ⟨hl0, h⟩ := h
    obtain ⟨l, hl, hkd⟩ := wo_inv hl0
    obtain ⟨b, hkd⟩ := Kd.ifc_inv hkd
    obtain ⟨i, d, z, fl, hi, hd, hz, hfl, h1', h2', rfl⟩ := layOf_inv hl
    obtain ⟨ms, rfl, rfl⟩ := kd_iface hkd
    generalize hp : a.eval x = p at hx fin
    cases hx with
    | iface t' v' _ hrep =>
      cases op <;> simp only at h <;> first
        | exact h.elim
        | (refine fin _ _ _ _ rfl hy.v_inv (guard_plain trivial) ?_ (.v _) h; simp only [binOp, Sem.run_bind, eq_held hd, Result.andThen_ok, Sem.run_pure, Bool.not_false]; done)
  · rename_i p q e1 e2
    rw [e1] at hx; rw [e2] at hy
    obtain ⟨hl0, h⟩ := h
    obtain ⟨l, hl, hkd⟩ := wo_inv hl0
    replace hkd := Kd.bool_inv hkd
    obtain ⟨i, d, z, fl, hi, hd, hz, hfl, h1', h2', rfl⟩ := layOf_inv hl
    have hd2 := kd_bool hkd
    subst hd2
    cases op <;> simp only at h <;> first
      | exact h.elim
      | (refine fin _ _ _ _ hx.v_inv hy.v_inv (guard_plain trivial) ?_ (.v _) h; simp only [binOp, Sem.run_bind, eq_bools hd, Result.andThen_ok, Sem.run_pure]; done)
  · rename_i cs ds e1 e2
    rw [e1] at hx; rw [e2] at hy
    obtain ⟨r, ⟨vs, us, rfl, rfl, hg, heq⟩, h⟩ := h
    cases op <;> simp only at h <;> first
      | exact h.elim
      | (refine fin _ _ _ _ hx.agg_inv hy.agg_inv (run_eqGuard_agg w _ t x y _ _ hg) ?_ (.v _) h; rw [run_eql_struct, heq w]; rfl)
      | (refine fin _ _ _ _ hx.agg_inv hy.agg_inv (run_eqGuard_agg w _ t x y _ _ hg) ?_ (.v _) h; rw [run_neq_struct, heq w]; rfl)
  · exact h.elim
theorem snd_un {op : UnOp} {t : TypeId} {x : Operand} (ho : o.op = .unOp op t x) (h : aop P o.type F σ K (.unOp op t x)) (hS : Sim base w G σ) (hF : FrRep G a n F) (hK : Nxt base G a o.dst K next) : o.wp P a w next Q := by
  have hx := hF.ev x
  simp only [aop] at h
  split at h
  · rename_i b e
    rw [e] at hx
    exact snd_val (v := .bool (!b)) hS (by unfold execOp; simp [ho, hx.v_inv, Op.unary]) (.v _) h hK
  · rename_i k m e
    rw [e] at hx
    exact snd_val (v := .int k (k.wrap (0 - m))) hS (by unfold execOp; simp [ho, hx.v_inv, Op.unary, Op.intArith]) (.v _) h hK
  · exact h.elim
theorem snd_iface {t : TypeId} {x : Operand} (ho : o.op = .makeInterface t x) (h : aop P o.type F σ K (.makeInterface t x)) (hS : Sim base w G σ) (hF : FrRep G a n F) (hK : Nxt base G a o.dst K next) : o.wp P a w next Q := by
  simp only [aop] at h
  obtain ⟨hl0, h⟩ := h
  obtain ⟨l, hl, hkd⟩ := wo_inv hl0
  obtain ⟨i, d, z, fl, hi, hd, hz, hfl, h1', h2', rfl⟩ := layOf_inv hl
  refine wp_ifaceI t x _ _ ho rfl ?_ (hK _ _ G _ _ G.le_refl hS (.iface t _ _ (hF.ev x)) h)
  unfold Instr.makeInterface
  rw [Sem.run_bind, run_underlying hd]
  cases d <;> simp_all [kdOf, Kd.ifc]
theorem evL (hF : FrRep G a n F) : ∀ (xs : List Operand), RepL G (xs.map a.eval) (xs.map (ev F))
  | [] => RepL.nil G
  | x :: xs => (evL hF xs).cons (hF.ev x)
theorem snd_makeFunc {fn : Fn} {first caps : Array Operand} (ho : o.op = .makeFunc fn first caps) (h : aop P o.type F σ K (.makeFunc fn first caps)) (hS : Sim base w G σ) (hF : FrRep G a n F) (hK : Nxt base G a o.dst K next) : o.wp P a w next Q := by
  simp only [aop] at h
  split at h
  · rename_i f
    obtain ⟨rfl, h⟩ := h
    have hl := evL hF caps.toList
    refine snd_val (v := .func (.func f) #[] (caps.toList.map a.eval).toArray) hS ?_ (.func f _ _ hl.len hl.rep) h hK
    have e : caps.map a.eval = (caps.toList.map a.eval).toArray := by rw [← Array.toList_map, Array.toArray_toList]
    unfold execOp
    simp only [ho, Instr.makeFunc, e]
    simp
  · exact h.elim
theorem snd_fieldAddr {s : TypeId} {x : Operand} {f : Nat} (ho : o.op = .fieldAddr s x f) (h : aop P o.type F σ K (.fieldAddr s x f)) (hS : Sim base w G σ) (hF : FrRep G a n F) (hK : Nxt base G a o.dst K next) : o.wp P a w next Q := by
  simp only [aop] at h
  replace h := wo_inv h
  obtain ⟨l, hl, h⟩ := h
  replace h := wo_inv h
  obtain ⟨⟨off, size, g⟩, hf, hne, h⟩ := h
  obtain ⟨i, d, z, fl, hi, hd, hz, hfl, h1', h2', rfl⟩ := layOf_inv hl
  obtain ⟨fs, rfl⟩ := fieldsOf_struct hfl hf
  obtain ⟨fd, fi, dd, g1, g2, g3, rfl, rfl, rfl⟩ := fieldsOf_get hfl hf
  have hev := hF.ev x
  split at h
  · rename_i cs hx
    rw [hx] at hev
    generalize hy : a.eval x = y at hev
    cases hev with
    | ptr ad _ vals hs hcell hrep =>
      obtain ⟨b, off, sp⟩ := ad
      simp only at hs
      subst hs
      refine wp_fieldI s x f _ _ ho hy (run_fieldAt hd g1 g2 hne) (hK _ _ G _ _ G.le_refl hS ?_ h)
      refine .ptr _ _ (fun k => vals (fd.offset + k)) rfl (fun k hk => ?_) (fun k e he => ?_)
      · have := hcell (fd.offset + k) (by rw [List.length_drop] at hk; omega)
        simpa [Nat.add_assoc] using this
      · rw [List.getElem?_drop] at he
        exact hrep _ e he
  · rename_i b off hx
    rw [hx] at hev
    exact wp_fieldI s x f _ _ ho hev.v_inv (run_fieldAt hd g1 g2 hne) (hK _ _ G _ _ G.le_refl hS (.v _) h)
  · exact h.elim
end
end Go.Proofs.Ytmpbofmhjjgccaa
