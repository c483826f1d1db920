/-
  Operations as they are reasoned about: each is sound.
-/
import Derived.Test.YtmpbofmhjjgccaaAwC
namespace Go.Proofs.Ytmpbofmhjjgccaa
open Go.RowKit
set_option linter.unusedVariables false
set_option linter.unusedSimpArgs false

/-- What is owed behind an operation. -/
def Nxt (base : World) (G : Gh) (a : Act) (dst : Option Tmp) (K : D → St → Prop) (next : Act → World → Prop) : Prop :=
  ∀ v w' G' d σ', G.le G' → Sim base w' G' σ' → Rep G' v d → K d σ' → next (a.put dst v) w'
section
variable {P : Program} {o : Oper} {a : Act} {F : Fr} {σ : St} {K : D → St → Prop} {n : Nat} {base w : World} {G : Gh} {next : Act → World → Prop} {Q : Exit → Act → World → Prop}
theorem snd_val {v : Value} {d : D} (hS : Sim base w G σ) (hrun : (execOp a.eval o).run P w = .ok (.value v) w) (hr : Rep G v d) (hk : K d σ) (hK : Nxt base G a o.dst K next) : o.wp P a w next Q :=
  wp_runI v hrun (hK v w G d σ G.le_refl hS hr hk)

theorem snd_move {x : Operand} (ho : o.op = .move x) (h : K (ev F x) σ) (hS : Sim base w G σ) (hF : FrRep G a n F) (hK : Nxt base G a o.dst K next) : o.wp P a w next Q :=
  snd_val hS (by unfold execOp; simp [ho]) (hF.ev x) h hK
theorem snd_assign {x : Operand} (ho : o.op = .assign x) (h : K (ev F x) σ) (hS : Sim base w G σ) (hF : FrRep G a n F) (hK : Nxt base G a o.dst K next) : o.wp P a w next Q :=
  snd_val hS (by unfold execOp; simp [ho]) (hF.ev x) h hK
theorem snd_pick {c x y : Operand} (ho : o.op = .pick c x y) (h : aop P o.type F σ K (.pick c x y)) (hS : Sim base w G σ) (hF : FrRep G a n F) (hK : Nxt base G a o.dst K next) : o.wp P a w next Q := by
  simp only [aop] at h
  split at h
  · rename_i p hp
    have hc : a.eval c = .bool p := (hp ▸ hF.ev c).v_inv
    refine snd_val (v := if p then a.eval x else a.eval y) hS (by unfold execOp; simp [ho, hc, asBool]) ?_ h hK
    cases p
    · exact hF.ev y
    · exact hF.ev x
  · exact h.elim
theorem snd_alloc {t : TypeId} (ho : o.op = .alloc t) (h : aop P o.type F σ K (.alloc t)) (hS : Sim base w G σ) (hF : FrRep G a n F) (hK : Nxt base G a o.dst K next) : o.wp P a w next Q := by
  simp only [aop] at h
  replace h := wo_inv h
  obtain ⟨l, hl, hk⟩ := h
  obtain ⟨i, d, z, fl, hi, hd, hz, hfl, h1, h2, rfl⟩ := layOf_inv hl
  refine wp_allocI t ho hi hz (hK _ _ G _ _ G.le_refl ?_ (.v _) (hk w.heap.size ⟨hS.fresh_box (Nat.le_refl _), hS.fresh_tip (Nat.le_refl _)⟩))
  have := hS.allocBox t z.cells.toList (z.cells.toList.map .v) (.mapV _) h1
  rwa [Array.toArray_toList] at this
theorem snd_box {t : TypeId} {x : Operand} (ho : o.op = .box t x) (h : aop P o.type F σ K (.box t x)) (hS : Sim base w G σ) (hF : FrRep G a n F) (hK : Nxt base G a o.dst K next) : o.wp P a w next Q := by
  simp only [aop] at h
  replace h := wo_inv h
  obtain ⟨cs, hc, hk⟩ := h
  obtain ⟨h1, h2⟩ := D.cells_rep (hF.ev x) hc
  have hrun : (execOp a.eval o).run P w = .ok (.value (.pointer (some ⟨w.heap.size, 0, none⟩))) (w.alloc (.cells (a.eval x).cells t)) := by
    unfold execOp
    simp [ho, Instr.box, newVar, newRow]
  refine wp_runI _ hrun (hK _ _ G _ _ G.le_refl ?_ (.v _) (hk w.heap.size ⟨hS.fresh_box (Nat.le_refl _), hS.fresh_tip (Nat.le_refl _)⟩))
  have := hS.allocBox t _ cs h1 h2
  rwa [Array.toArray_toList] at this
theorem fill_dput {places : List (Nat × Nat)} {fl : List (Nat × Nat × Bool)} (hp : places = fl.map fun f => (f.1, f.2.1)) : ∀ (parts : List (Nat × Operand)) (zs : List Value) (cs cs' : List D), RepL G zs cs → (∀ y ∈ zs, y.oneCell' = true) → FrRep G a n F →
    abuild fl (parts.map fun x => (x.1, ev F x.2)) cs = some cs' → ∃ vs : List Value, Instr.fill (places.toArray[·]?) zs.toArray (parts.map fun x => (x.1, a.eval x.2)) = some vs.toArray ∧ RepL G vs cs' ∧ ∀ y ∈ vs, y.oneCell' = true
  | [], zs, cs, cs', hz, h1, hF, h => by
    simp only [List.map_nil, abuild, Option.some.injEq] at h
    subst h
    exact ⟨zs, rfl, hz, h1⟩
  | (k, x) :: parts, zs, cs, cs', hz, h1, hF, h => by
    simp only [List.map_cons, abuild] at h
    split at h
    · rename_i off size g xs hf hx
      split at h
      · rename_i hc
        obtain ⟨hc1, hc2⟩ := hc
        obtain ⟨hr, hr1⟩ := D.cells_rep (hF.ev x) hx
        have hlen : (a.eval x).cells.toList.length = size := hr.len.trans hc1
        have hzl := hz.len
        obtain ⟨vs, hv, hv2⟩ := fill_dput hp parts _ _ cs' (hz.dput hr off) (one_dput h1 hr1 off) hF h
        refine ⟨vs, ?_, hv2⟩
        have hpl : places.toArray[k]? = some (off, size) := by
          rw [List.getElem?_toArray, hp, List.getElem?_map, hf]
          rfl
        have hfs := fold_set (a.eval x).cells.toList off zs.toArray (by simp only [List.size_toArray]; omega)
        simp only [List.map_cons, Instr.fill, hpl]
        have hsz : (a.eval x).cells.size = size := by simpa using hlen
        simp only [hsz, List.size_toArray]
        rw [if_neg (by simp; omega)]
        rw [← hv]
        congr 1
        rw [show (List.take off zs ++ (a.eval x).cells.toList ++ List.drop (off + (a.eval x).cells.toList.length) zs) = (List.take off zs.toArray.toList ++ (a.eval x).cells.toList ++ List.drop (off + (a.eval x).cells.toList.length) zs.toArray.toList) by simp]
        rw [← hfs]
        rw [← Array.foldl_toList, Array.toList_zipIdx]
        rw [List.zipIdx_eq_map_add (i := off), List.foldl_map]
      · cases h
    · cases h
theorem places_of {fs : List Field} {fl : List (Nat × Nat × Bool)} (h : fs.mapM (fieldOf P) = some fl) : fs.mapM (fun f => (P.info? f.type).map fun i => (f.offset, i.size)) = some (fl.map fun f => (f.1, f.2.1)) := by
  induction fs generalizing fl with
  | nil => simp at h; subst h; rfl
  | cons c fs ih =>
    simp only [List.mapM_cons, Option.bind_eq_bind, Option.pure_def] at h ⊢
    cases hc : fieldOf P c with
    | none => simp [hc] at h
    | some y =>
      cases hr : fs.mapM (fieldOf P) with
      | none => simp [hc, hr] at h
      | some ys =>
        simp [hc, hr] at h
        subst h
        have h2 := hc
        unfold fieldOf at h2
        cases hi : P.info? c.type with
        | none => simp [hi] at h2
        | some i =>
          cases hd : P.underlying c.type with
          | none => simp [hi, hd] at h2
          | some dd =>
            simp only [hi, hd, Option.some.injEq] at h2
            subst h2
            simp [ih hr]
theorem kd_struct {d : TypeDesc} (h : kdOf d = .strukt) : ∃ fs, d = .struct fs := by
  cases d <;> first | exact ⟨_, rfl⟩ | (simp [kdOf] at h)
theorem kd_slice {d : TypeDesc} {e : TypeId} (h : kdOf d = .slice e) : d = .slice e := by
  cases d <;> simp_all [kdOf]
theorem kd_str {d : TypeDesc} (h : kdOf d = .str) : d = .string := by
  cases d <;> simp_all [kdOf]
theorem kd_bool {d : TypeDesc} (h : kdOf d = .bool) : d = .bool := by
  cases d <;> simp_all [kdOf]
theorem kd_iface {d : TypeDesc} {b : Bool} (h : kdOf d = .iface b) : ∃ ms, d = .interface ms ∧ b = ms.isEmpty := by
  cases d <;> simp_all [kdOf]
theorem snd_build {t : TypeId} {parts : Array (Nat × Operand)} (ho : o.op = .build t parts) (h : aop P o.type F σ K (.build t parts)) (hS : Sim base w G σ) (hF : FrRep G a n F) (hK : Nxt base G a o.dst K next) : o.wp P a w next Q := by
  simp only [aop] at h
  replace h := wo_inv h
  obtain ⟨l, hl, hagg, hkd, h⟩ := h
  replace h := wo_inv h
  obtain ⟨cs, hb, hk⟩ := h
  replace hkd := Kd.strukt_inv hkd
  obtain ⟨i, d, z, fl, hi, hd, hz, hfl, h1, h2, rfl⟩ := layOf_inv hl
  obtain ⟨fs, rfl⟩ := kd_struct hkd
  obtain ⟨vs, hv, hv2, hv3⟩ := fill_dput (places := fl.map fun f => (f.1, f.2.1)) rfl parts.toList z.cells.toList _ cs (.mapV _) h1 hF hb
  have hbt : P.built t (parts.map fun (i, x) => (i, a.eval x)).toList = some vs.toArray := by
    unfold Program.built
    simp only [hi, hd, hz, places_of hfl]
    rw [← hv, Array.toList_map, Array.toArray_toList]
  refine wp_build t parts ho (by rw [hbt]; rfl) ?_
  rw [hbt]
  exact hK _ _ G _ _ G.le_refl hS (.agg vs cs hv2.len hv3 hv2.rep) hk
theorem fillS {sz : Nat} (hsz : 0 < sz) : ∀ (parts : List (Nat × Operand)) (k : Nat) (pre : List Value) (zs : List Value) (ds : List (List D)), pre.length = k * sz → zs.length = parts.length * sz → FrRep G a n F →
    abuildS sz k (parts.map fun x => (x.1, ev F x.2)) = some ds → ∃ vs : List Value, Instr.fill (fun i => some (i * sz, sz)) (pre ++ zs).toArray (parts.map fun x => (x.1, a.eval x.2)) = some (pre ++ vs).toArray ∧ RepL G vs ds.flatten ∧ (∀ y ∈ vs, y.oneCell' = true) ∧ (∀ c ∈ ds, c.length = sz) ∧ ds.length = parts.length
  | [], k, pre, zs, ds, hp, hz, hF, h => by
    simp only [List.map_nil, abuildS, Option.some.injEq] at h
    subst h
    have : zs = [] := List.eq_nil_of_length_eq_zero (by simpa using hz)
    subst this
    exact ⟨[], rfl, RepL.nil G, by simp, by simp, rfl⟩
  | (j, x) :: parts, k, pre, zs, ds, hp, hz, hF, h => by
    simp only [List.map_cons, abuildS] at h
    split at h
    · rename_i xs hx
      split at h
      · rename_i hc
        obtain ⟨hc1, rfl⟩ := hc
        obtain ⟨ds', hds, rfl⟩ := Option.map_eq_some_iff.1 h
        obtain ⟨hr, hr1⟩ := D.cells_rep (hF.ev x) hx
        have hlen : (a.eval x).cells.toList.length = sz := hr.len.trans hc1
        have hzl : zs.length = parts.length * sz + sz := by rw [hz, List.length_cons, Nat.add_mul]; omega
        obtain ⟨vs, hv, hv2, hv3, hv4, hv5⟩ := fillS hsz parts (j + 1) (pre ++ (a.eval x).cells.toList) (zs.drop sz) ds' (by rw [List.length_append, hp, hlen, Nat.add_mul]; omega) (by rw [List.length_drop]; omega) hF hds
        refine ⟨(a.eval x).cells.toList ++ vs, ?_, ⟨?_, ?_⟩, ?_, ?_, by simp [hv5]⟩
        · rw [← List.append_assoc, ← hv]
          have hfs := fold_set (a.eval x).cells.toList (j * sz) (pre ++ zs).toArray (by simp only [List.size_toArray, List.length_append]; omega)
          simp only [List.map_cons, Instr.fill]
          have hsz' : (a.eval x).cells.size = sz := by simpa using hlen
          simp only [hsz', List.size_toArray]
          rw [if_neg (by simp; omega)]
          congr 1
          have e1 : (pre ++ (a.eval x).cells.toList ++ zs.drop sz) = (List.take (j * sz) (pre ++ zs).toArray.toList ++ (a.eval x).cells.toList ++ List.drop (j * sz + (a.eval x).cells.toList.length) (pre ++ zs).toArray.toList) := by
            rw [hlen]
            simp only
            rw [List.take_append_of_le_length (by omega), List.take_of_length_le (by omega), List.drop_append, List.drop_eq_nil_of_le (i := j * sz + sz) (by omega), List.nil_append, hp]
            congr 2
            omega
          rw [e1, ← hfs, ← Array.foldl_toList, Array.toList_zipIdx, List.zipIdx_eq_map_add (i := j * sz), List.foldl_map]
        · rw [List.flatten_cons, List.length_append, List.length_append, hr.len, hv2.len]
        · intro q u e h1 h2
          rw [List.flatten_cons] at h2
          by_cases hq : q < (a.eval x).cells.toList.length
          · rw [List.getElem?_append_left hq] at h1
            rw [List.getElem?_append_left (by rw [← hr.len]; exact hq)] at h2
            exact hr.rep q u e h1 h2
          · rw [List.getElem?_append_right (by omega)] at h1
            rw [List.getElem?_append_right (by rw [← hr.len]; omega), ← hr.len] at h2
            exact hv2.rep _ u e h1 h2
        · intro y hy
          rcases List.mem_append.1 hy with hy | hy
          · exact hr1 y hy
          · exact hv3 y hy
        · intro c hc
          rcases List.mem_cons.1 hc with rfl | hc
          · exact hc1
          · exact hv4 c hc
      · cases h
    · cases h
theorem snd_buildSlice {t : TypeId} {m : Nat} {parts : Array (Nat × Operand)} (ho : o.op = .buildSlice t m parts) (h : aop P o.type F σ K (.buildSlice t m parts)) (hS : Sim base w G σ) (hF : FrRep G a n F) (hK : Nxt base G a o.dst K next) : o.wp P a w next Q := by
  simp only [aop] at h
  replace h := wo_inv h
  obtain ⟨l, hl, h⟩ := h
  replace h := wo_inv h
  obtain ⟨e, hkd, h⟩ := h
  replace h := wo_inv h
  obtain ⟨le, hle, hpos, hbig, hpn, h⟩ := h
  replace h := wo_inv h
  obtain ⟨ds, hb, hk⟩ := h
  replace hkd := Kd.sl_inv hkd
  obtain ⟨i, d, z, fl, hi, hd, hz, hfl, h1, h2, rfl⟩ := layOf_inv hl
  obtain ⟨i', d', z', fl', hi', hd', hz', hfl', h1', h2', rfl⟩ := layOf_inv hle
  have hd2 := kd_slice hkd
  subst hd2
  have hpos : 0 < i'.size := hpos
  have hbig : m * i'.size ≤ 16777216 := hbig
  have hb : abuildS i'.size 0 (parts.toList.map fun x => (x.1, ev F x.2)) = some ds := hb
  have hzl : ((Array.range (m * i'.size)).map (z'.cells[· % z'.cells.size]!)).toList.length = parts.toList.length * i'.size := by simp [hpn]
  obtain ⟨vs, hv, hv2, hv3, hv4, hv5⟩ := fillS hpos parts.toList 0 [] ((Array.range (m * i'.size)).map (z'.cells[· % z'.cells.size]!)).toList ds (by simp) hzl hF hb
  have hdl : ds.length = m := by rw [hv5]; simpa using hpn
  have hfill : Instr.fill (fun i => some (i * i'.size, i'.size)) ((Array.range (m * i'.size)).map (z'.cells[· % z'.cells.size]!)) (parts.map fun (i, x) => (i, a.eval x)).toList = some vs.toArray := by
    rw [Array.toList_map (xs := parts)]
    rw [List.nil_append, Array.toArray_toList] at hv
    exact hv
  have hvl : vs.length = ds.length * i'.size := hv2.len.trans (flat_len ds hv4)
  have hrun : (execOp a.eval o).run P w = .ok (.value (.slice (some ⟨w.heap.size, 0, none⟩) m m)) (w.alloc (.cells vs.toArray e)) := by
    by_cases hm : m = 0
    · subst hm
      have hp0 : parts = #[] := Array.eq_empty_of_size_eq_zero hpn
      subst hp0
      have hv0 : vs = [] := List.eq_nil_of_length_eq_zero (by rw [hvl, hdl]; omega)
      subst hv0
      have hr : (Instr.buildSlice t 0 #[]).run P w = .ok (.slice (some ⟨w.heap.size, 0, none⟩) 0 0) (w.alloc (.cells #[] e)) := by
        simp [Instr.buildSlice, run_underlying hd, sizeOf, typeInfo, hi', Instr.fill, newRow]
        have e0 : Array.map (fun _ : Nat => (default : Value)) (Array.range 0) = #[] := Array.eq_empty_of_size_eq_zero (by simp)
        rw [e0]
      unfold execOp
      simp only [ho, Sem.run_bind]
      simp only [List.map_toArray, List.map_nil, hr, Result.andThen_ok, Sem.run_pure]
    · have hr := run_buildSlice (P := P) w t e m (parts.map fun (i, x) => (i, a.eval x)) vs.toArray i' z' hd hi' hz' (by omega) (by have := Nat.mul_pos (Nat.pos_of_ne_zero hm) hpos; omega) hfill
      unfold execOp
      simp only [ho, Sem.run_bind, hr, Result.andThen_ok, Sem.run_pure]
  have hS' := hS.newData (w' := w.alloc (.cells vs.toArray e)) ((Below.refl _ w).alloc (Nat.le_refl _) _) e vs [] (by rw [List.append_nil]; exact heap_alloc_new w _) hv3
  have hle' := hS.le_add vs (Nat.le_refl w.heap.size)
  refine wp_runI _ hrun (hK _ _ _ _ _ hle' hS' ?_ hk)
  rw [← hdl]
  refine Rep.slice ⟨w.heap.size, 0, none⟩ ds.length none true i'.size ds (fun k => vs.getD k undef) rfl (Nat.le_refl _) (fun _ => rfl) hv4 ?_ ?_ (by simp)
  · intro k hk
    have hk' : k < vs.length := by rw [hvl]; exact hk
    simp only [Gh.add, if_true, Nat.zero_add]
    rw [List.getElem?_eq_getElem hk', List.getD_eq_getElem?_getD, List.getElem?_eq_getElem hk']
    rfl
  · intro k dd hd
    have hk' : k < vs.length := by rw [hv2.len]; exact (List.getElem?_eq_some_iff.1 hd).1
    have := hv2.rep k vs[k] dd (List.getElem?_eq_getElem hk') hd
    rw [List.getD_eq_getElem?_getD, List.getElem?_eq_getElem hk']
    exact this.mono hle'
end
end Go.Proofs.Ytmpbofmhjjgccaa
