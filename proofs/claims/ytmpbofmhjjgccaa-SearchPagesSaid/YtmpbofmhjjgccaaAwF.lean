/-
  Operations as they are reasoned about: lists, calls.
-/
import Derived.Test.YtmpbofmhjjgccaaAwE
import Derived.OwnWalk
namespace Go.Proofs.Ytmpbofmhjjgccaa
open Go.RowKit
set_option linter.unusedVariables false
set_option linter.unusedSimpArgs false

section
variable {P : Program} {o : Oper} {a : Act} {F : Fr} {σ : St} {K : D → St → Prop} {n : Nat} {base w : World} {G : Gh} {next : Act → World → Prop} {Q : Exit → Act → World → Prop}
theorem snd_field {s : TypeId} {x : Operand} {f : Nat} (ho : o.op = .field s x f) (h : aop P o.type F σ K (.field s x f)) (hS : Sim base w G σ) (hF : FrRep G a n F) (hK : Nxt base G a o.dst K next) : o.wp P a w next Q := by
  simp only [aop] at h
  replace h := wo_inv h
  obtain ⟨l, hl, h⟩ := h
  replace h := wo_inv h
  obtain ⟨⟨off, size, g⟩, hf, hne, h⟩ := h
  obtain ⟨i, d, z, fl, hi, hd, hz, hfl, h1', h2', rfl⟩ := layOf_inv hl
  obtain ⟨fs, rfl⟩ := fieldsOf_struct hfl hf
  obtain ⟨fd, fi, dd, g1, g2, g3, rfl, rfl, rfl⟩ := fieldsOf_get hfl hf
  have hev := hF.ev x
  split at h
  · rename_i cs hx
    rw [hx] at hev
    generalize hy : a.eval x = y at hev
    cases hev with
    | agg vs _ hlen h1 hrep =>
      have fin : ∀ v d, (part fd.type vs.toArray fd.offset).run P w = .ok v w → Rep G v d → K d σ → o.wp P a w next Q := fun v d hr h2 h3 =>
        snd_val hS (by unfold execOp; simp [ho, hy, Instr.field, run_underlying hd, g1, asAgg, hr]) h2 h3 hK
      cases hag : aggOf dd with
      | true =>
        rw [hag] at h
        simp only [if_true] at h
        obtain ⟨hle, hk⟩ := h
        have hagg : (isAgg fd.type).run P w = .ok true w := by
          unfold isAgg
          rw [Sem.run_bind, run_underlying g3 w]
          cases dd <;> simp_all [aggOf]
        refine fin (.agg ((vs.drop fd.offset).take fi.size).toArray) _ ?_ ?_ hk
        · have e : vs.toArray.extract fd.offset (fd.offset + fi.size) = ((vs.drop fd.offset).take fi.size).toArray := by
            rw [List.extract_toArray, List.extract_eq_take_drop, Nat.add_sub_cancel_left]
          simp [part, Sem.run_bind, hagg, sizeOf, typeInfo, g2, e]
        · refine .agg _ _ (by simp [hlen]) (fun u hu => h1 u (List.mem_of_mem_drop (List.mem_of_mem_take hu))) (fun k u e hu he => ?_)
          rw [List.getElem?_take] at hu he
          split at hu
          · rename_i hk'
            rw [if_pos hk', List.getElem?_drop] at he
            rw [List.getElem?_drop] at hu
            exact hrep _ u e hu he
          · cases hu
      | false =>
        rw [hag] at h
        simp only [Bool.false_eq_true, if_false] at h
        have hagg : (isAgg fd.type).run P w = .ok false w := by
          unfold isAgg
          rw [Sem.run_bind, run_underlying g3 w]
          cases dd <;> simp_all [aggOf]
        cases hdr : cs.drop fd.offset with
        | nil => rw [hdr] at h; exact h.elim
        | cons e es =>
          rw [hdr] at h
          have hce : cs[fd.offset]? = some e := by
            have : (cs.drop fd.offset)[0]? = some e := by rw [hdr]; rfl
            rwa [List.getElem?_drop, Nat.add_zero] at this
          have hlt : fd.offset < vs.length := by rw [hlen]; exact (List.getElem?_eq_some_iff.1 hce).1
          refine fin vs[fd.offset] e ?_ (hrep _ _ _ (List.getElem?_eq_getElem hlt) hce) h
          simp [part, Sem.run_bind, hagg, hlt]
  · exact h.elim
theorem snd_indexAddr {t : TypeId} {x ix : Operand} (ho : o.op = .indexAddr t x ix) (h : aop P o.type F σ K (.indexAddr t x ix)) (hS : Sim base w G σ) (hF : FrRep G a n F) (hK : Nxt base G a o.dst K next) : o.wp P a w next Q := by
  simp only [aop] at h
  replace h := wo_inv h
  obtain ⟨l, hl, h⟩ := h
  replace h := wo_inv h
  obtain ⟨e, hkd, h⟩ := h
  replace h := wo_inv h
  obtain ⟨le, hle, h⟩ := h
  replace hkd := Kd.sl_inv hkd
  obtain ⟨i, d, z, fl, hi, hd, hz, hfl, h1', h2', rfl⟩ := layOf_inv hl
  obtain ⟨i', d', z', fl', hi', hd', hz', hfl', h1'', h2'', rfl⟩ := layOf_inv hle
  have hd2 := kd_slice hkd
  subst hd2
  have hev := hF.ev x
  have hei := hF.ev ix
  split at h
  · rename_i nl tip full sz ds k m hx hix
    rw [hix] at hei
    obtain ⟨rfl, h0, hlt, hk⟩ := h
    have hi2 := hei.v_inv
    have hev : Rep G (a.eval x) (.slice tip full i'.size ds) := by
      rcases hev.list_inv hx with ⟨_, _, _, rfl⟩ | h
      · simp at hlt; omega
      · exact h
    generalize hy : a.eval x = y at hev
    cases hev with
    | slice ad c _ _ _ _ vals hs hc hfull hsz hcell hrep htip =>
      obtain ⟨b, off, sp⟩ := ad
      simp only at hs
      subst hs
      have hm : m.toNat < ds.length := by omega
      refine snd_val (v := .pointer (some ⟨b, off + m.toNat * i'.size, none⟩)) hS ?_ ?_ hk hK
      · unfold execOp
        simp [ho, hy, hi2, Instr.indexAt, run_underlying hd, asIntOf, h0, hlt, sizeOf, typeInfo, hi', addr_add]
      · have hget : ds[m.toNat]? = some (ds.getD m.toNat []) := by
          rw [List.getD_eq_getElem?_getD, List.getElem?_eq_getElem hm]; rfl
        have hlen : (ds.getD m.toNat []).length = i'.size := hsz _ (List.mem_of_getElem? hget)
        refine .ptr _ _ (fun k => vals (m.toNat * i'.size + k)) rfl (fun k hk => ?_) (fun k e he => ?_)
        · rw [hlen] at hk
          have : m.toNat * i'.size + k < ds.length * i'.size := by
            have := Nat.mul_le_mul_right i'.size (show m.toNat + 1 ≤ ds.length from hm)
            rw [Nat.add_mul] at this
            omega
          have := hcell _ this
          simpa [Nat.add_assoc] using this
        · have hk' : k < i'.size := by rw [← hlen]; exact (List.getElem?_eq_some_iff.1 he).1
          exact hrep _ e ((flat_get ds m.toNat k _ hsz hget hk').trans he)
  · exact h.elim
theorem snd_index {t : TypeId} {x ix : Operand} (ho : o.op = .index t x ix) (h : aop P o.type F σ K (.index t x ix)) (hS : Sim base w G σ) (hF : FrRep G a n F) (hK : Nxt base G a o.dst K next) : o.wp P a w next Q := by
  simp only [aop] at h
  obtain ⟨hl0, h⟩ := h
  obtain ⟨l, hl, hkd⟩ := wo_inv hl0
  replace hkd := Kd.str_inv hkd
  obtain ⟨i, d, z, fl, hi, hd, hz, hfl, h1', h2', rfl⟩ := layOf_inv hl
  have hd2 := kd_str hkd
  subst hd2
  have hev := hF.ev x
  have hei := hF.ev ix
  split at h
  · rename_i s k m hx hix
    rw [hx] at hev
    rw [hix] at hei
    obtain ⟨h0, hlt, hk⟩ := h
    have hm : m.toNat < s.size := by omega
    refine snd_val (v := .int .u8 (s.data.toList.getD m.toNat 0).toNat) hS ?_ (.v _) hk hK
    have hg : s[m.toNat]? = some s[m.toNat] := getElem?_pos s m.toNat hm
    have he : s.data.toList.getD m.toNat 0 = s[m.toNat] := by
      rw [List.getD_eq_getElem?_getD, Array.getElem?_toList, Array.getElem?_eq_getElem (show m.toNat < s.data.size from hm)]
      rfl
    rw [he]
    unfold execOp
    simp [ho, hev.v_inv, hei.v_inv, Instr.index, asIntOf, run_underlying hd, h0, hg]
  · exact h.elim
theorem snd_extract {x : Operand} {k : Nat} (ho : o.op = .extract x k) (h : aop P o.type F σ K (.extract x k)) (hS : Sim base w G σ) (hF : FrRep G a n F) (hK : Nxt base G a o.dst K next) : o.wp P a w next Q := by
  have hev := hF.ev x
  simp only [aop] at h
  split at h
  · rename_i ds hx
    rw [hx] at hev
    split at h
    · rename_i d hd
      generalize hy : a.eval x = y at hev
      cases hev with
      | tup vs _ hlen hrep =>
        have hlt : k < vs.length := by rw [hlen]; exact (List.getElem?_eq_some_iff.1 hd).1
        exact wp_extractI x k ho vs.toArray vs[k] hy (by rw [List.getElem?_toArray, List.getElem?_eq_getElem hlt]) (hK _ _ G _ _ G.le_refl hS (hrep k _ d (List.getElem?_eq_getElem hlt) hd) h)
    · exact h.elim
  · exact h.elim
theorem obound_run {x : Option Operand} {dflt : Nat} {m : Int} (hF : FrRep G a n F) (h : obound F dflt x = some m) : (x = none ∧ m = dflt) ∨ ∃ k, x.map a.eval = some (.int k m) := by
  cases x with
  | none => simp [obound] at h; exact .inl ⟨rfl, h.symm⟩
  | some x =>
    simp only [obound] at h
    split at h
    · rename_i k q hx
      injection h with h
      subst h
      have := hF.ev x
      rw [hx] at this
      exact .inr ⟨k, by simp [this.v_inv]⟩
    · cases h
theorem bound_run {k : IntKind} {m : Int} {y : Nat} {code : BoundsCode} (h0 : 0 ≤ m) (h1 : m ≤ y) : (Instr.sliceBound (.int k m) y code).run P w = .ok m.toNat w := by
  simp [Instr.sliceBound, asIntOf, h0, h1]
set_option maxHeartbeats 4000000 in
theorem snd_slice {t : TypeId} {x : Operand} {lo hi mx : Option Operand} (ho : o.op = .slice t x lo hi mx) (h : aop P o.type F σ K (.slice t x lo hi mx)) (hS : Sim base w G σ) (hF : FrRep G a n F) (hK : Nxt base G a o.dst K next) : o.wp P a w next Q := by
  simp only [aop] at h
  replace h := wo_inv h
  obtain ⟨l, hl, h⟩ := h
  obtain ⟨i, d, z, fl, hi', hd, hz, hfl, h1', h2', rfl⟩ := layOf_inv hl
  have hev := hF.ev x
  have fin : ∀ (u v : Value) (d' : D), a.eval x = u → (Instr.sliceAt t u (lo.map a.eval) (hi.map a.eval) (mx.map a.eval)).run P w = .ok v w → Rep G v d' → K d' σ → o.wp P a w next Q := fun u v d' hu hr h2 h3 =>
    snd_val hS (by unfold execOp; simp [ho, hu, hr]) h2 h3 hK
  simp only at h
  split at h
  · rename_i s hkd hx
    have hd2 := kd_str hkd
    subst hd2
    rw [hx] at hev
    obtain ⟨rfl, h⟩ := h
    split at h
    · rename_i p q hp hq
      obtain ⟨h0, h1, h2, hk⟩ := h
      refine fin _ (.string (s.extract p.toNat q.toNat)) _ hev.v_inv ?_ (.v _) hk
      rcases obound_run hF hp with ⟨rfl, rfl⟩ | ⟨k1, e1⟩ <;> rcases obound_run hF hq with ⟨rfl, rfl⟩ | ⟨k2, e2⟩
      · simp [Instr.sliceAt, Instr.slice, run_underlying hd, Instr.sliceBounds]
      · simp [Instr.sliceAt, Instr.slice, run_underlying hd, Instr.sliceBounds, e2, bound_run (show (0 : Int) ≤ q by omega) h2]
      · simp [Instr.sliceAt, Instr.slice, run_underlying hd, Instr.sliceBounds, e1, bound_run h0 (show p ≤ ((s.size : Nat) : Int) by omega)]
      · have e3 : p ≤ ((q.toNat : Nat) : Int) := by omega
        simp [Instr.sliceAt, Instr.slice, run_underlying hd, Instr.sliceBounds, e1, e2, bound_run (show (0 : Int) ≤ q by omega) h2, bound_run h0 e3]
    · exact h.elim
  · rename_i e hkd
    have hd2 := kd_slice hkd
    subst hd2
    replace h := wo_inv h
    obtain ⟨le, hle, h⟩ := h
    obtain ⟨i', d', z', fl', hi'', hd', hz', hfl', h1'', h2'', rfl⟩ := layOf_inv hle
    -- what every way comes to
    have rep : ∀ (nl : Bool) (tip : Option (Nat × Nat)) (full : Bool) (ds : List (List D)) (b off c : Nat) (vals : Nat → Value), (nl = true → tip = none) → ds.length ≤ c → (full = true → c = ds.length) → (∀ cs ∈ ds, cs.length = i'.size) → (∀ k, k < ds.length * i'.size → G b (off + k) = some (vals k)) →
        (∀ (k : Nat) (d : D), ds.flatten[k]? = some d → Rep G (vals k) d) → (∀ b' cap, tip = some (b', cap) → (⟨b, off, none⟩ : Addr) = ⟨b', 0, none⟩ ∧ c = cap) →
        ∀ (p q : Nat) (m : Option Nat) (cap : Nat), p ≤ q → q ≤ ds.length → q - p ≤ cap → (∀ k, m = some k → (k = q → cap = q - p)) → (m = none → cap = c - p) →
        Rep G (.slice (some (if cap = 0 then (⟨b, off, none⟩ : Addr) else ⟨b, off + p * i'.size, none⟩)) (q - p) cap) (aslice nl tip full i'.size ds p q m) := by
      intro nl tip full ds b off c vals hnl hc hfull hsz hcell hrep htip p q m cap hpq hql hcap hm1 hm2
      have hlen : ((ds.take q).drop p).length = q - p := by rw [List.length_drop, List.length_take, Nat.min_eq_left hql]
      have hsz' : ∀ cs ∈ (ds.take q).drop p, cs.length = i'.size := fun cs hcs => hsz cs (List.mem_of_mem_take (List.mem_of_mem_drop hcs))
      have hcell0 : ∀ k, k < ((ds.take q).drop p).length * i'.size → ¬ cap = 0 ∧ k + p * i'.size < ds.length * i'.size := by
        intro k hk
        rw [hlen] at hk
        refine ⟨fun e => ?_, ?_⟩
        · have : q - p = 0 := by omega
          rw [this] at hk
          omega
        · have h3 := Nat.mul_le_mul_right i'.size (show q - p + p ≤ ds.length by omega)
          rw [Nat.add_mul] at h3
          omega
      have key : ∀ tip' : Option (Nat × Nat), (∀ b' cap', tip' = some (b', cap') → p = 0 ∧ m = none ∧ tip = some (b', cap')) → Rep G (.slice (some (if cap = 0 then (⟨b, off, none⟩ : Addr) else ⟨b, off + p * i'.size, none⟩)) (q - p) cap)
          (.slice tip' (sfull full ds.length q m) i'.size ((ds.take q).drop p)) := by
        intro tip' htip'
        rw [← hlen]
        refine .slice _ cap _ _ i'.size _ (fun k => vals (k + p * i'.size)) (by split <;> rfl) (by rw [hlen]; exact hcap) ?_ hsz' ?_ ?_ ?_
        · intro hf
          rw [hlen]
          cases m with
          | some m => exact hm1 m rfl (by simpa [sfull] using hf)
          | none =>
            have hf' : full = true ∧ q = ds.length := by simpa [sfull] using hf
            have := hfull hf'.1
            rw [hm2 rfl]
            omega
        · intro k hk
          obtain ⟨h3, h4⟩ := hcell0 k hk
          have := hcell _ h4
          rw [if_neg h3]
          rw [← this]
          simp only
          congr 1
          omega
        · intro k e he
          have hk : k < ((ds.take q).drop p).length * i'.size := by
            have := (List.getElem?_eq_some_iff.1 he).1
            rwa [flat_len _ hsz'] at this
          obtain ⟨h3, h4⟩ := hcell0 k hk
          refine hrep _ e ?_
          have hpos : 0 < i'.size := by
            rcases Nat.eq_zero_or_pos i'.size with h0 | h0
            · rw [h0, Nat.mul_zero] at hk; omega
            · exact h0
          have hk2 : k / i'.size < q - p := by rw [hlen] at hk; exact (Nat.div_lt_iff_lt_mul hpos).2 hk
          have hmod : k % i'.size < i'.size := Nat.mod_lt _ hpos
          have hke : k = k / i'.size * i'.size + k % i'.size := by rw [Nat.mul_comm]; exact (Nat.div_add_mod k i'.size).symm
          have hget : ds[p + k / i'.size]? = some (ds[p + k / i'.size]'(by omega)) := List.getElem?_eq_getElem _
          have hget2 : ((ds.take q).drop p)[k / i'.size]? = some (ds[p + k / i'.size]'(by omega)) := by
            rw [List.getElem?_drop, List.getElem?_take, if_pos (by omega)]
            exact hget
          have e1 := flat_get ((ds.take q).drop p) (k / i'.size) (k % i'.size) _ hsz' hget2 hmod
          rw [← hke, he] at e1
          have e2 := flat_get ds (p + k / i'.size) (k % i'.size) _ hsz hget hmod
          rw [show k + p * i'.size = (p + k / i'.size) * i'.size + k % i'.size by rw [Nat.add_mul]; omega, e2]
          exact e1.symm
        · intro b' cap' ht
          obtain ⟨rfl, rfl, ht⟩ := htip' b' cap' ht
          obtain ⟨g1, g2⟩ := htip b' cap' ht
          rw [hm2 rfl]
          refine ⟨?_, by omega⟩
          rw [Nat.zero_mul, Nat.add_zero]
          split <;> exact g1
      unfold aslice
      cases nl with
      | true => exact .lst _ _ _ _ (key none (by simp))
      | false =>
        refine key _ (fun b' cap' ht => ?_)
        by_cases hpm : p = 0 ∧ m = none
        · rw [if_pos hpm] at ht
          split at ht
          · exact ⟨hpm.1, hpm.2, ht⟩
          · cases ht
        · rw [if_neg hpm] at ht; cases ht
    split at h
    · rename_i nl tip full sz ds hx
      obtain ⟨rfl, h⟩ := h
      split at h
      · rename_i p q hp hq
        obtain ⟨h0, h1, h2, hk⟩ := h
        rcases hev.list_inv hx with ⟨rfl, rfl, hv, rfl⟩ | hev
        · have hp0 : p = 0 := by simp at h2; omega
          have hq0 : q = 0 := by simp at h2; omega
          subst hp0; subst hq0
          refine fin _ (.slice none 0 0) _ hv ?_ (by simpa [aslice] using Rep.lst0 _ _) hk
          rcases obound_run hF hp with ⟨rfl, _⟩ | ⟨k1, e1⟩ <;> rcases obound_run hF hq with ⟨rfl, _⟩ | ⟨k2, e2⟩
          · simp [Instr.sliceAt, Instr.slice, run_underlying hd, Instr.sliceBounds, sizeOf, typeInfo, hi'']
          · simp [Instr.sliceAt, Instr.slice, run_underlying hd, Instr.sliceBounds, e2, Instr.sliceBound, asIntOf, sizeOf, typeInfo, hi'']
          · simp [Instr.sliceAt, Instr.slice, run_underlying hd, Instr.sliceBounds, e1, Instr.sliceBound, asIntOf, sizeOf, typeInfo, hi'']
          · simp [Instr.sliceAt, Instr.slice, run_underlying hd, Instr.sliceBounds, e1, e2, Instr.sliceBound, asIntOf, sizeOf, typeInfo, hi'']
        · have hnl : nl = true → tip = none := by
            rintro rfl
            generalize (ev F x) = dx at hx
            cases dx <;> simp_all [D.list]
          generalize hy : a.eval x = y at hev fin
          cases hev with
          | slice ad c _ _ _ _ vals hs hc hfull hsz hcell hrep htip =>
            obtain ⟨b, off, sp⟩ := ad
            simp only at hs
            subst hs
            refine fin _ (.slice (some (if c - p.toNat = 0 then (⟨b, off, none⟩ : Addr) else ⟨b, off + p.toNat * i'.size, none⟩)) (q.toNat - p.toNat) (c - p.toNat)) _ rfl ?_ (rep nl tip full ds b off c vals hnl hc hfull hsz hcell hrep htip p.toNat q.toNat none (c - p.toNat) (by omega) (by omega) (by omega) (by simp) (by simp)) hk
            have e9 : (if c = p.toNat then (⟨b, off, none⟩ : Addr) else ⟨b, off + p.toNat * i'.size, none⟩) = if c - p.toNat = 0 then (⟨b, off, none⟩ : Addr) else ⟨b, off + p.toNat * i'.size, none⟩ := by
              by_cases hcp : c = p.toNat
              · rw [if_pos hcp, if_pos (by omega)]
              · rw [if_neg hcp, if_neg (by omega)]
            rw [← e9]
            have hqc : q ≤ ((c : Nat) : Int) := by omega
            rcases obound_run hF hp with ⟨rfl, rfl⟩ | ⟨k1, e1⟩ <;> rcases obound_run hF hq with ⟨rfl, rfl⟩ | ⟨k2, e2⟩
            · simp [Instr.sliceAt, Instr.slice, run_underlying hd, Instr.sliceBounds, sizeOf, typeInfo, hi''] <;> (first | (intro _; exact addr_add b off 0) | (split <;> (rename_i h9; simp [h9, addr_add])))
            · simp [Instr.sliceAt, Instr.slice, run_underlying hd, Instr.sliceBounds, e2, bound_run (show (0 : Int) ≤ q by omega) hqc, sizeOf, typeInfo, hi''] <;> (first | (intro _; exact addr_add b off 0) | (split <;> (rename_i h9; simp [h9, addr_add])))
            · simp [Instr.sliceAt, Instr.slice, run_underlying hd, Instr.sliceBounds, e1, bound_run h0 (show p ≤ ((ds.length : Nat) : Int) by omega), sizeOf, typeInfo, hi''] <;> (first | (intro _; exact addr_add b off 0) | (split <;> (rename_i h9; simp [h9, addr_add])))
            · have e3 : p ≤ ((q.toNat : Nat) : Int) := by omega
              simp [Instr.sliceAt, Instr.slice, run_underlying hd, Instr.sliceBounds, e1, e2, bound_run (show (0 : Int) ≤ q by omega) hqc, bound_run h0 e3, sizeOf, typeInfo, hi''] <;> (first | (intro _; exact addr_add b off 0) | (split <;> (rename_i h9; simp [h9, addr_add])))
      · exact h.elim
    · rename_i nl tip full sz ds mo hx
      obtain ⟨rfl, hhi, h⟩ := h
      split at h
      · rename_i p q km m hp hq hm
        obtain ⟨h0, h1, h2, h3, hk⟩ := h
        have hme := hF.ev mo
        rw [hm] at hme
        rcases hev.list_inv hx with ⟨rfl, rfl, hv, rfl⟩ | hev
        · have hm0 : m = 0 := by simp at h3; omega
          have hp0 : p = 0 := by omega
          have hq0 : q = 0 := by omega
          subst hp0; subst hq0; subst hm0
          refine fin _ (.slice none 0 0) _ hv ?_ (by simpa [aslice] using Rep.lst0 _ _) hk
          rcases obound_run hF hq with ⟨rfl, _⟩ | ⟨k2, e2⟩
          · simp at hhi
          · rcases obound_run hF hp with ⟨rfl, _⟩ | ⟨k1, e1⟩
            · simp [Instr.sliceAt, Instr.slice, run_underlying hd, Instr.sliceBounds, e2, hme.v_inv, Instr.sliceBound, asIntOf, sizeOf, typeInfo, hi'']
            · simp [Instr.sliceAt, Instr.slice, run_underlying hd, Instr.sliceBounds, e1, e2, hme.v_inv, Instr.sliceBound, asIntOf, sizeOf, typeInfo, hi'']
        · have hnl : nl = true → tip = none := by
            rintro rfl
            generalize (ev F x) = dx at hx
            cases dx <;> simp_all [D.list]
          generalize hy : a.eval x = y at hev fin
          cases hev with
          | slice ad c _ _ _ _ vals hs hc hfull hsz hcell hrep htip =>
            obtain ⟨b, off, sp⟩ := ad
            simp only at hs
            subst hs
            refine fin _ (.slice (some (if m.toNat - p.toNat = 0 then (⟨b, off, none⟩ : Addr) else ⟨b, off + p.toNat * i'.size, none⟩)) (q.toNat - p.toNat) (m.toNat - p.toNat)) _ rfl ?_ (rep nl tip full ds b off c vals hnl hc hfull hsz hcell hrep htip p.toNat q.toNat (some m.toNat) (m.toNat - p.toNat) (by omega) (by omega) (by omega) (by intro k hk1 hk2; injection hk1 with hk1; omega) (by simp)) hk
            have e9 : (if m.toNat = p.toNat then (⟨b, off, none⟩ : Addr) else ⟨b, off + p.toNat * i'.size, none⟩) = if m.toNat - p.toNat = 0 then (⟨b, off, none⟩ : Addr) else ⟨b, off + p.toNat * i'.size, none⟩ := by
              by_cases hcp : m.toNat = p.toNat
              · rw [if_pos hcp, if_pos (by omega)]
              · rw [if_neg hcp, if_neg (by omega)]
            rw [← e9]
            have hmc : m ≤ ((c : Nat) : Int) := by omega
            have hqm : q ≤ ((m.toNat : Nat) : Int) := by omega
            have e3 : p ≤ ((q.toNat : Nat) : Int) := by omega
            rcases obound_run hF hq with ⟨rfl, rfl⟩ | ⟨k2, e2⟩
            · simp at hhi
            · rcases obound_run hF hp with ⟨rfl, rfl⟩ | ⟨k1, e1⟩
              · simp [Instr.sliceAt, Instr.slice, run_underlying hd, Instr.sliceBounds, e2, hme.v_inv, bound_run (show (0 : Int) ≤ m by omega) hmc, bound_run (show (0 : Int) ≤ q by omega) hqm, sizeOf, typeInfo, hi''] <;> (first | (intro _; exact addr_add b off 0) | (split <;> (rename_i h9; simp [h9, addr_add])))
              · simp [Instr.sliceAt, Instr.slice, run_underlying hd, Instr.sliceBounds, e1, e2, hme.v_inv, bound_run (show (0 : Int) ≤ m by omega) hmc, bound_run (show (0 : Int) ≤ q by omega) hqm, bound_run h0 e3, sizeOf, typeInfo, hi''] <;> (first | (intro _; exact addr_add b off 0) | (split <;> (rename_i h9; simp [h9, addr_add])))
      · exact h.elim
    · exact h.elim
  · exact h.elim
end
end Go.Proofs.Ytmpbofmhjjgccaa
