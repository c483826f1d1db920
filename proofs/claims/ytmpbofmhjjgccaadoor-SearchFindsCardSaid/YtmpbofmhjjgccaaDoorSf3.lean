/- Part 3 of the proof of CardSearchFinds: Lf Lg Lh Li. -/
import Derived.Test.YtmpbofmhjjgccaaDoorSf2
import Derived.OwnWalk
import Derived.MapKept
import Derived.WideMake
import Derived.Laws.BytesString
import Derived.Lib.ConvBytes
import Derived.Laws.MakeOwn
/-
  Operations as they are reasoned about: lists, calls.
-/
namespace Go.Proofs.YtmpbofmhjjgccaaDoor
open Go.RowKit
set_option linter.unusedVariables false
set_option linter.unusedSimpArgs false

section
variable {P : Program} {o : Oper} {a : Act} {F : Fr} {σ : St} {K : D → St → Prop} {n : Nat} {df : List Deferred} {E : Value → St → Prop} {base w : World} {G : Gh} {next : Act → World → Prop} {Q : Exit → Act → World → Prop}
theorem snd_field {s : TypeId} {x : Operand} {f : Nat} (ho : o.op = .field s x f) (h : aop P o.type F σ K E (.field s x f)) (hS : Sim base w G σ) (hF : FrRep G a n df F) (hK : Nxt base G a o.dst K next) : o.wp P a w next Q := by
  simp only [aop] at h
  replace h := wo_inv h
  obtain ⟨l, hl, h⟩ := h
  replace h := wo_inv h
  obtain ⟨⟨off, size, g⟩, hf, hne, h⟩ := h
  obtain ⟨i, d, z, fl, hi, hd, hz, hfl, h1', h2', rfl⟩ := layOf_inv hl
  obtain ⟨fs, rfl⟩ := fieldsOf_struct hfl hf
  obtain ⟨fd, fi, dd, g1, g2, g3, rfl, rfl, rfl⟩ := fieldsOf_get hfl hf
  have hev := hF.ev x
  split at h
  · rename_i cs hx
    rw [hx] at hev
    generalize hy : a.eval x = y at hev
    cases hev with
    | agg vs _ hlen h1 hrep =>
      have fin : ∀ v d, (part fd.type vs.toArray fd.offset).run P w = .ok v w → Rep G v d → K d σ → o.wp P a w next Q := fun v d hr h2 h3 =>
        snd_val hS (by unfold execOp; simp [ho, hy, Instr.field, run_underlying hd, g1, asAgg, hr]) h2 h3 hK
      cases hag : aggOf dd with
      | true =>
        rw [hag] at h
        simp only [if_true] at h
        obtain ⟨hle, hk⟩ := h
        have hagg : (isAgg fd.type).run P w = .ok true w := by
          unfold isAgg
          rw [Sem.run_bind, run_underlying g3 w]
          cases dd <;> simp_all [aggOf]
        refine fin (.agg ((vs.drop fd.offset).take fi.size).toArray) _ ?_ ?_ hk
        · have e : vs.toArray.extract fd.offset (fd.offset + fi.size) = ((vs.drop fd.offset).take fi.size).toArray := by
            rw [List.extract_toArray, List.extract_eq_take_drop, Nat.add_sub_cancel_left]
          simp [part, Sem.run_bind, hagg, sizeOf, typeInfo, g2, e]
        · refine .agg _ _ (by simp [hlen]) (fun u hu => h1 u (List.mem_of_mem_drop (List.mem_of_mem_take hu))) (fun k u e hu he => ?_)
          rw [List.getElem?_take] at hu he
          split at hu
          · rename_i hk'
            rw [if_pos hk', List.getElem?_drop] at he
            rw [List.getElem?_drop] at hu
            exact hrep _ u e hu he
          · cases hu
      | false =>
        rw [hag] at h
        simp only [Bool.false_eq_true, if_false] at h
        have hagg : (isAgg fd.type).run P w = .ok false w := by
          unfold isAgg
          rw [Sem.run_bind, run_underlying g3 w]
          cases dd <;> simp_all [aggOf]
        cases hdr : cs.drop fd.offset with
        | nil => rw [hdr] at h; exact h.elim
        | cons e es =>
          rw [hdr] at h
          have hce : cs[fd.offset]? = some e := by
            have : (cs.drop fd.offset)[0]? = some e := by rw [hdr]; rfl
            rwa [List.getElem?_drop, Nat.add_zero] at this
          have hlt : fd.offset < vs.length := by rw [hlen]; exact (List.getElem?_eq_some_iff.1 hce).1
          refine fin vs[fd.offset] e ?_ (hrep _ _ _ (List.getElem?_eq_getElem hlt) hce) h
          simp [part, Sem.run_bind, hagg, hlt]
  · exact h.elim
theorem snd_indexAddr {t : TypeId} {x ix : Operand} (ho : o.op = .indexAddr t x ix) (h : aop P o.type F σ K E (.indexAddr t x ix)) (hS : Sim base w G σ) (hF : FrRep G a n df F) (hK : Nxt base G a o.dst K next) : o.wp P a w next Q := by
  simp only [aop] at h
  replace h := wo_inv h
  obtain ⟨l, hl, h⟩ := h
  replace h := wo_inv h
  obtain ⟨e, hkd, h⟩ := h
  replace h := wo_inv h
  obtain ⟨le, hle, h⟩ := h
  replace hkd := Kd.sl_inv hkd
  obtain ⟨i, d, z, fl, hi, hd, hz, hfl, h1', h2', rfl⟩ := layOf_inv hl
  obtain ⟨i', d', z', fl', hi', hd', hz', hfl', h1'', h2'', rfl⟩ := layOf_inv hle
  have hd2 := kd_slice hkd
  subst hd2
  have hev := hF.ev x
  have hei := hF.ev ix
  have frozen : ∀ (k : IntKind) (m : Int) (tip : Option (Nat × Nat)) (full : Bool) (ds : List (List D)), a.eval ix = .int k m → Rep G (a.eval x) (.slice tip full i'.size ds) → 0 ≤ m → m < ds.length → K (.ptr (ds.getD m.toNat [])) σ → o.wp P a w next Q := by
    intro k m tip full ds hi2 hev h0 hlt hk
    generalize hy : a.eval x = y at hev
    cases hev with
    | slice ad c _ _ _ _ vals hs hc hfull hsz hcell hrep htip =>
      obtain ⟨b, off, sp⟩ := ad
      have hs := hs (by rintro rfl; simp at hlt; omega)
      simp only at hs
      subst hs
      have hm : m.toNat < ds.length := by omega
      refine snd_val (v := .pointer (some ⟨b, off + m.toNat * i'.size, none⟩)) hS ?_ ?_ hk hK
      · unfold execOp
        simp [ho, hy, hi2, Instr.indexAt, run_underlying hd, asIntOf, h0, hlt, sizeOf, typeInfo, hi', addr_add]
      · have hget : ds[m.toNat]? = some (ds.getD m.toNat []) := by
          rw [List.getD_eq_getElem?_getD, List.getElem?_eq_getElem hm]; rfl
        have hlen : (ds.getD m.toNat []).length = i'.size := hsz _ (List.mem_of_getElem? hget)
        refine .ptr _ _ (fun k => vals (m.toNat * i'.size + k)) rfl (fun k hk => ?_) (fun k e he => ?_)
        · rw [hlen] at hk
          have : m.toNat * i'.size + k < ds.length * i'.size := by
            have := Nat.mul_le_mul_right i'.size (show m.toNat + 1 ≤ ds.length from hm)
            rw [Nat.add_mul] at this
            omega
          have := hcell _ this
          simpa [Nat.add_assoc] using this
        · have hk' : k < i'.size := by rw [← hlen]; exact (List.getElem?_eq_some_iff.1 he).1
          exact hrep _ e ((flat_get ds m.toNat k _ hsz hget hk').trans he)
  split at h
  · rename_i b sz cap o0 m k q hx hix
    rw [hix] at hei
    obtain ⟨rfl, h0, hlt, hk⟩ := h
    have hi2 := hei.v_inv
    rw [hx] at hev
    generalize hy : a.eval x = y at hev
    cases hev with
    | arr _ off c _ _ _ _ hof h00 hnc =>
      have hof : off = o0 * i'.size := by
        rcases hof with h | h
        · omega
        · exact h
      subst hof
      refine snd_val (v := .pointer (some ⟨b, (o0 + q.toNat) * i'.size + 0, none⟩)) hS ?_ (.aptr b i'.size (o0 + q.toNat) 0) hk hK
      unfold execOp
      simp [ho, hy, hi2, Instr.indexAt, run_underlying hd, asIntOf, h0, hlt, sizeOf, typeInfo, hi', addr_add, Nat.add_mul]
  · rename_i tip full sz ds k m hx hix
    rw [hix] at hei
    obtain ⟨rfl, h0, hlt, hk⟩ := h
    rw [hx] at hev
    exact frozen k m tip full ds hei.v_inv hev h0 hlt hk
  · rename_i full sz ds k m hx hix
    rw [hix] at hei
    obtain ⟨rfl, h0, hlt, hk⟩ := h
    rw [hx] at hev
    rcases hev.list_inv (nl := true) (tip := none) rfl with ⟨_, _, _, h9⟩ | hev
    · subst h9; simp at hlt; omega
    · exact frozen k m none full ds hei.v_inv hev h0 hlt hk
  · exact h.elim
theorem snd_index {t : TypeId} {x ix : Operand} (ho : o.op = .index t x ix) (h : aop P o.type F σ K E (.index t x ix)) (hS : Sim base w G σ) (hF : FrRep G a n df F) (hK : Nxt base G a o.dst K next) : o.wp P a w next Q := by
  simp only [aop] at h
  obtain ⟨l, hl, h⟩ := wo_inv h
  obtain ⟨i, d, z, fl, hi, hd, hz, hfl, h1', h2', rfl⟩ := layOf_inv hl
  have hev := hF.ev x
  have hei := hF.ev ix
  split at h
  · rename_i s k m hkd hx hix
    have hd2 := kd_str hkd
    subst hd2
    rw [hx] at hev
    rw [hix] at hei
    obtain ⟨h0, hlt, hk⟩ := h
    have hm : m.toNat < s.size := by omega
    refine snd_val (v := .int .u8 (s.data.toList.getD m.toNat 0).toNat) hS ?_ (.v _) hk hK
    have hg : s[m.toNat]? = some s[m.toNat] := getElem?_pos s m.toNat hm
    have he : s.data.toList.getD m.toNat 0 = s[m.toNat] := by
      rw [List.getD_eq_getElem?_getD, Array.getElem?_toList, Array.getElem?_eq_getElem (show m.toNat < s.data.size from hm)]
      rfl
    rw [he]
    unfold execOp
    simp [ho, hev.v_inv, hei.v_inv, Instr.index, asIntOf, run_underlying hd, h0, hg]
  · exact h.elim
theorem snd_extract {x : Operand} {k : Nat} (ho : o.op = .extract x k) (h : aop P o.type F σ K E (.extract x k)) (hS : Sim base w G σ) (hF : FrRep G a n df F) (hK : Nxt base G a o.dst K next) : o.wp P a w next Q := by
  have hev := hF.ev x
  simp only [aop] at h
  split at h
  · rename_i ds hx
    rw [hx] at hev
    split at h
    · rename_i d hd
      generalize hy : a.eval x = y at hev
      cases hev with
      | tup vs _ hlen hrep =>
        have hlt : k < vs.length := by rw [hlen]; exact (List.getElem?_eq_some_iff.1 hd).1
        exact wp_extractI x k ho vs.toArray vs[k] hy (by rw [List.getElem?_toArray, List.getElem?_eq_getElem hlt]) (hK _ _ G _ _ G.le_refl hS (hrep k _ d (List.getElem?_eq_getElem hlt) hd) h)
    · exact h.elim
  · exact h.elim
theorem obound_run {x : Option Operand} {dflt : Nat} {m : Int} (hF : FrRep G a n df F) (h : obound F dflt x = some m) : (x = none ∧ m = dflt) ∨ ∃ k, x.map a.eval = some (.int k m) := by
  cases x with
  | none => simp [obound] at h; exact .inl ⟨rfl, h.symm⟩
  | some x =>
    simp only [obound] at h
    split at h
    · rename_i k q hx
      injection h with h
      subst h
      have := hF.ev x
      rw [hx] at this
      exact .inr ⟨k, by simp [this.v_inv]⟩
    · cases h
theorem bound_run {k : IntKind} {m : Int} {y : Nat} {code : BoundsCode} (h0 : 0 ≤ m) (h1 : m ≤ y) : (Instr.sliceBound (.int k m) y code).run P w = .ok m.toNat w := by
  simp [Instr.sliceBound, asIntOf, h0, h1]
set_option maxHeartbeats 4000000 in
theorem snd_slice {t : TypeId} {x : Operand} {lo hi mx : Option Operand} (ho : o.op = .slice t x lo hi mx) (h : aop P o.type F σ K E (.slice t x lo hi mx)) (hS : Sim base w G σ) (hF : FrRep G a n df F) (hK : Nxt base G a o.dst K next) : o.wp P a w next Q := by
  simp only [aop] at h
  replace h := wo_inv h
  obtain ⟨l, hl, h⟩ := h
  obtain ⟨i, d, z, fl, hi', hd, hz, hfl, h1', h2', rfl⟩ := layOf_inv hl
  have hev := hF.ev x
  have fin : ∀ (u v : Value) (d' : D), a.eval x = u → (Instr.sliceAt t u (lo.map a.eval) (hi.map a.eval) (mx.map a.eval)).run P w = .ok v w → Rep G v d' → K d' σ → o.wp P a w next Q := fun u v d' hu hr h2 h3 =>
    snd_val hS (by unfold execOp; simp [ho, hu, hr]) h2 h3 hK
  simp only at h
  split at h
  · rename_i s hkd hx
    have hd2 := kd_str hkd
    subst hd2
    rw [hx] at hev
    obtain ⟨rfl, h⟩ := h
    split at h
    · rename_i p q hp hq
      obtain ⟨h0, h1, h2, hk⟩ := h
      refine fin _ (.string (s.extract p.toNat q.toNat)) _ hev.v_inv ?_ (.v _) hk
      rcases obound_run hF hp with ⟨rfl, rfl⟩ | ⟨k1, e1⟩ <;> rcases obound_run hF hq with ⟨rfl, rfl⟩ | ⟨k2, e2⟩
      · simp [Instr.sliceAt, Instr.slice, run_underlying hd, Instr.sliceBounds]
      · simp [Instr.sliceAt, Instr.slice, run_underlying hd, Instr.sliceBounds, e2, bound_run (show (0 : Int) ≤ q by omega) h2]
      · simp [Instr.sliceAt, Instr.slice, run_underlying hd, Instr.sliceBounds, e1, bound_run h0 (show p ≤ ((s.size : Nat) : Int) by omega)]
      · have e3 : p ≤ ((q.toNat : Nat) : Int) := by omega
        simp [Instr.sliceAt, Instr.slice, run_underlying hd, Instr.sliceBounds, e1, e2, bound_run (show (0 : Int) ≤ q by omega) h2, bound_run h0 e3]
    · exact h.elim
  · rename_i e b sz cap o0 m hkd hx
    have hd2 := kd_slice hkd
    subst hd2
    replace h := wo_inv h
    obtain ⟨le, hle, hsz, h⟩ := h
    obtain ⟨i', d', z', fl', hi'', hd', hz', hfl', h1'', h2'', rfl⟩ := layOf_inv hle
    have hsz : i'.size = sz := hsz
    subst hsz
    rw [hx] at hev
    generalize hy : a.eval x = y at hev fin
    cases hev with
    | arr _ off c _ _ _ _ hof h00 hnc =>
      split at h
      · split at h
        · rename_i p q hp hq
          obtain ⟨h0, h1, h2, hk⟩ := h
          have hqc : q ≤ ((c : Nat) : Int) := by omega
          refine fin _ (.slice (some (if c - p.toNat = 0 then (⟨b, off, none⟩ : Addr) else ⟨b, off + p.toNat * i'.size, none⟩)) (q.toNat - p.toNat) (c - p.toNat)) _ rfl ?_ ?_ hk
          · have e9 : (if c = p.toNat then (⟨b, off, none⟩ : Addr) else ⟨b, off + p.toNat * i'.size, none⟩) = if c - p.toNat = 0 then (⟨b, off, none⟩ : Addr) else ⟨b, off + p.toNat * i'.size, none⟩ := by
              by_cases hcp : c = p.toNat
              · rw [if_pos hcp, if_pos (by omega)]
              · rw [if_neg hcp, if_neg (by omega)]
            rw [← e9]
            rcases obound_run hF hp with ⟨rfl, rfl⟩ | ⟨k1, e1⟩ <;> rcases obound_run hF hq with ⟨rfl, rfl⟩ | ⟨k2, e2⟩
            · simp [Instr.sliceAt, Instr.slice, run_underlying hd, Instr.sliceBounds, sizeOf, typeInfo, hi''] <;> (first | (intro _; exact addr_add b off 0) | (split <;> (rename_i h9; simp [h9, addr_add])))
            · simp [Instr.sliceAt, Instr.slice, run_underlying hd, Instr.sliceBounds, e2, bound_run (show (0 : Int) ≤ q by omega) hqc, sizeOf, typeInfo, hi''] <;> (first | (intro _; exact addr_add b off 0) | (split <;> (rename_i h9; simp [h9, addr_add])))
            · simp [Instr.sliceAt, Instr.slice, run_underlying hd, Instr.sliceBounds, e1, bound_run h0 (show p ≤ ((m : Nat) : Int) by omega), sizeOf, typeInfo, hi''] <;> (first | (intro _; exact addr_add b off 0) | (split <;> (rename_i h9; simp [h9, addr_add])))
            · have e3 : p ≤ ((q.toNat : Nat) : Int) := by omega
              simp [Instr.sliceAt, Instr.slice, run_underlying hd, Instr.sliceBounds, e1, e2, bound_run (show (0 : Int) ≤ q by omega) hqc, bound_run h0 e3, sizeOf, typeInfo, hi''] <;> (first | (intro _; exact addr_add b off 0) | (split <;> (rename_i h9; simp [h9, addr_add])))
          · have e8 : (if c - p.toNat = 0 then (⟨b, off, none⟩ : Addr) else ⟨b, off + p.toNat * i'.size, none⟩) = ⟨b, (if c - p.toNat = 0 then off else off + p.toNat * i'.size), none⟩ := by split <;> rfl
            rw [e8]
            refine .arr b _ _ _ _ _ _ ?_ ?_ (by omega)
            · by_cases hz : q.toNat - p.toNat = 0
              · exact .inl hz
              · rcases hof with h | h
                · omega
                · right
                  rw [if_neg (by omega), h, Nat.add_mul]
            · intro hop
              have hp0 : p.toNat = 0 := by omega
              obtain ⟨g1, g2⟩ := h00 (by omega)
              rw [hp0, g1, g2]
              simp
        · exact h.elim
      · rename_i mo
        obtain ⟨hhi, h⟩ := h
        split at h
        · rename_i p q km m' hp hq hm
          obtain ⟨h0, rfl, h2, h3, hk⟩ := h
          have hme := hF.ev mo
          rw [hm] at hme
          have hmc : m' ≤ ((c : Nat) : Int) := by omega
          have hqm : p ≤ ((m'.toNat : Nat) : Int) := by omega
          have e3 : p ≤ ((p.toNat : Nat) : Int) := by omega
          refine fin _ (.slice (some (if m'.toNat - p.toNat = 0 then (⟨b, off, none⟩ : Addr) else ⟨b, off + p.toNat * i'.size, none⟩)) 0 (m'.toNat - p.toNat)) _ rfl ?_ ?_ hk
          · have e9 : (if m'.toNat = p.toNat then (⟨b, off, none⟩ : Addr) else ⟨b, off + p.toNat * i'.size, none⟩) = if m'.toNat - p.toNat = 0 then (⟨b, off, none⟩ : Addr) else ⟨b, off + p.toNat * i'.size, none⟩ := by
              by_cases hcp : m'.toNat = p.toNat
              · rw [if_pos hcp, if_pos (by omega)]
              · rw [if_neg hcp, if_neg (by omega)]
            rw [← e9]
            rcases obound_run hF hq with ⟨rfl, rfl⟩ | ⟨k2, e2⟩
            · simp at hhi
            · rcases obound_run hF hp with ⟨rfl, hp0⟩ | ⟨k1, e1⟩
              · subst hp0
                have hz9 := fun (w : World) (k : IntKind) => bound_run (P := P) (w := w) (k := k) (code := .slice3B) (show (0 : Int) ≤ 0 from Int.le_refl 0) (show (0 : Int) ≤ ((m'.toNat : Nat) : Int) by omega)
                simp [Instr.sliceAt, Instr.slice, run_underlying hd, Instr.sliceBounds, e2, hme.v_inv, bound_run (show (0 : Int) ≤ m' by omega) hmc, hz9, sizeOf, typeInfo, hi''] <;> (first | done | (intro _; exact addr_add b off 0) | (split <;> (first | rfl | (rename_i h9; simp [h9, addr_add]))))
              · simp [Instr.sliceAt, Instr.slice, run_underlying hd, Instr.sliceBounds, e1, e2, hme.v_inv, bound_run (show (0 : Int) ≤ m' by omega) hmc, bound_run h0 hqm, bound_run h0 e3, sizeOf, typeInfo, hi''] <;> (first | (intro _; exact addr_add b off 0) | (split <;> (rename_i h9; simp [h9, addr_add])))
          · refine .slice (ds := []) _ _ none _ _ (fun _ => undef) (fun h => absurd rfl h) (Nat.zero_le _) ?_ (by simp) (by simp) (by simp) (by simp)
            intro hf
            have : m' = p := by simpa using hf
            subst this
            simp
        · exact h.elim
  · rename_i e hkd _
    have hd2 := kd_slice hkd
    subst hd2
    replace h := wo_inv h
    obtain ⟨le, hle, h⟩ := h
    obtain ⟨i', d', z', fl', hi'', hd', hz', hfl', h1'', h2'', rfl⟩ := layOf_inv hle
    -- what every way comes to
    have rep : ∀ (nl : Bool) (tip : Option (Nat × Nat)) (full : Bool) (ds : List (List D)) (b off c : Nat) (vals : Nat → Value), (nl = true → tip = none) → ds.length ≤ c → (full = true → c = ds.length) → (∀ cs ∈ ds, cs.length = i'.size) → (∀ k, k < ds.length * i'.size → G b (off + k) = some (vals k)) →
        (∀ (k : Nat) (d : D), ds.flatten[k]? = some d → Rep G (vals k) d) → (∀ b' cap, tip = some (b', cap) → (⟨b, off, none⟩ : Addr) = ⟨b', 0, none⟩ ∧ c = cap) →
        ∀ (p q : Nat) (m : Option Nat) (cap : Nat), p ≤ q → q ≤ ds.length → q - p ≤ cap → (∀ k, m = some k → (k = q → cap = q - p)) → (m = none → cap = c - p) →
        Rep G (.slice (some (if cap = 0 then (⟨b, off, none⟩ : Addr) else ⟨b, off + p * i'.size, none⟩)) (q - p) cap) (aslice nl tip full i'.size ds p q m) := by
      intro nl tip full ds b off c vals hnl hc hfull hsz hcell hrep htip p q m cap hpq hql hcap hm1 hm2
      have hlen : ((ds.take q).drop p).length = q - p := by rw [List.length_drop, List.length_take, Nat.min_eq_left hql]
      have hsz' : ∀ cs ∈ (ds.take q).drop p, cs.length = i'.size := fun cs hcs => hsz cs (List.mem_of_mem_take (List.mem_of_mem_drop hcs))
      have hcell0 : ∀ k, k < ((ds.take q).drop p).length * i'.size → ¬ cap = 0 ∧ k + p * i'.size < ds.length * i'.size := by
        intro k hk
        rw [hlen] at hk
        refine ⟨fun e => ?_, ?_⟩
        · have : q - p = 0 := by omega
          rw [this] at hk
          omega
        · have h3 := Nat.mul_le_mul_right i'.size (show q - p + p ≤ ds.length by omega)
          rw [Nat.add_mul] at h3
          omega
      have key : ∀ tip' : Option (Nat × Nat), (∀ b' cap', tip' = some (b', cap') → p = 0 ∧ m = none ∧ tip = some (b', cap')) → Rep G (.slice (some (if cap = 0 then (⟨b, off, none⟩ : Addr) else ⟨b, off + p * i'.size, none⟩)) (q - p) cap)
          (.slice tip' (sfull full ds.length q m) i'.size ((ds.take q).drop p)) := by
        intro tip' htip'
        rw [← hlen]
        refine .slice _ cap _ _ i'.size _ (fun k => vals (k + p * i'.size)) (fun _ => by split <;> rfl) (by rw [hlen]; exact hcap) ?_ hsz' ?_ ?_ ?_
        · intro hf
          rw [hlen]
          cases m with
          | some m => exact hm1 m rfl (by simpa [sfull] using hf)
          | none =>
            have hf' : full = true ∧ q = ds.length := by simpa [sfull] using hf
            have := hfull hf'.1
            rw [hm2 rfl]
            omega
        · intro k hk
          obtain ⟨h3, h4⟩ := hcell0 k hk
          have := hcell _ h4
          rw [if_neg h3]
          rw [← this]
          simp only
          congr 1
          omega
        · intro k e he
          have hk : k < ((ds.take q).drop p).length * i'.size := by
            have := (List.getElem?_eq_some_iff.1 he).1
            rwa [flat_len _ hsz'] at this
          obtain ⟨h3, h4⟩ := hcell0 k hk
          refine hrep _ e ?_
          have hpos : 0 < i'.size := by
            rcases Nat.eq_zero_or_pos i'.size with h0 | h0
            · rw [h0, Nat.mul_zero] at hk; omega
            · exact h0
          have hk2 : k / i'.size < q - p := by rw [hlen] at hk; exact (Nat.div_lt_iff_lt_mul hpos).2 hk
          have hmod : k % i'.size < i'.size := Nat.mod_lt _ hpos
          have hke : k = k / i'.size * i'.size + k % i'.size := by rw [Nat.mul_comm]; exact (Nat.div_add_mod k i'.size).symm
          have hget : ds[p + k / i'.size]? = some (ds[p + k / i'.size]'(by omega)) := List.getElem?_eq_getElem _
          have hget2 : ((ds.take q).drop p)[k / i'.size]? = some (ds[p + k / i'.size]'(by omega)) := by
            rw [List.getElem?_drop, List.getElem?_take, if_pos (by omega)]
            exact hget
          have e1 := flat_get ((ds.take q).drop p) (k / i'.size) (k % i'.size) _ hsz' hget2 hmod
          rw [← hke, he] at e1
          have e2 := flat_get ds (p + k / i'.size) (k % i'.size) _ hsz hget hmod
          rw [show k + p * i'.size = (p + k / i'.size) * i'.size + k % i'.size by rw [Nat.add_mul]; omega, e2]
          exact e1.symm
        · intro b' cap' ht
          obtain ⟨rfl, rfl, ht⟩ := htip' b' cap' ht
          obtain ⟨g1, g2⟩ := htip b' cap' ht
          rw [hm2 rfl]
          refine ⟨?_, by omega⟩
          rw [Nat.zero_mul, Nat.add_zero]
          split <;> exact g1
      unfold aslice
      cases nl with
      | true => exact .lst _ _ _ _ (key none (by simp))
      | false =>
        refine key _ (fun b' cap' ht => ?_)
        by_cases hpm : p = 0 ∧ m = none
        · rw [if_pos hpm] at ht
          split at ht
          · exact ⟨hpm.1, hpm.2, ht⟩
          · cases ht
        · rw [if_neg hpm] at ht; cases ht
    split at h
    · rename_i nl tip full sz ds hx
      obtain ⟨rfl, h⟩ := h
      split at h
      · rename_i p q hp hq
        obtain ⟨h0, h1, h2, hk⟩ := h
        rcases hev.list_inv hx with ⟨rfl, rfl, hv, rfl⟩ | hev
        · have hp0 : p = 0 := by simp at h2; omega
          have hq0 : q = 0 := by simp at h2; omega
          subst hp0; subst hq0
          refine fin _ (.slice none 0 0) _ hv ?_ (by simpa [aslice] using Rep.lst0 _ _) hk
          rcases obound_run hF hp with ⟨rfl, _⟩ | ⟨k1, e1⟩ <;> rcases obound_run hF hq with ⟨rfl, _⟩ | ⟨k2, e2⟩
          · simp [Instr.sliceAt, Instr.slice, run_underlying hd, Instr.sliceBounds, sizeOf, typeInfo, hi'']
          · simp [Instr.sliceAt, Instr.slice, run_underlying hd, Instr.sliceBounds, e2, Instr.sliceBound, asIntOf, sizeOf, typeInfo, hi'']
          · simp [Instr.sliceAt, Instr.slice, run_underlying hd, Instr.sliceBounds, e1, Instr.sliceBound, asIntOf, sizeOf, typeInfo, hi'']
          · simp [Instr.sliceAt, Instr.slice, run_underlying hd, Instr.sliceBounds, e1, e2, Instr.sliceBound, asIntOf, sizeOf, typeInfo, hi'']
        · have hnl : nl = true → tip = none := by
            rintro rfl
            generalize (ev F x) = dx at hx
            cases dx <;> simp_all [D.list]
          generalize hy : a.eval x = y at hev fin
          cases hev with
          | slice ad c _ _ _ _ vals hs hc hfull hsz hcell hrep htip =>
            by_cases hne : ds = []
            · subst hne
              have hp0 : p = 0 := by simp at h2; omega
              have hq0 : q = 0 := by simp at h2; omega
              subst hp0; subst hq0
              refine fin _ (.slice (some ad) 0 c) _ rfl ?_ ?_ hk
              · have e0 : ∀ k : Nat, ad.add (0 * k) = ad := fun k => by rw [Nat.zero_mul]; simp [Addr.add]
                rcases obound_run hF hp with ⟨rfl, _⟩ | ⟨k1, e1⟩ <;> rcases obound_run hF hq with ⟨rfl, _⟩ | ⟨k2, e2⟩
                · simp [Instr.sliceAt, Instr.slice, run_underlying hd, Instr.sliceBounds, sizeOf, typeInfo, hi'', Addr.add]
                · simp [Instr.sliceAt, Instr.slice, run_underlying hd, Instr.sliceBounds, e2, Instr.sliceBound, asIntOf, sizeOf, typeInfo, hi'', Addr.add]
                · simp [Instr.sliceAt, Instr.slice, run_underlying hd, Instr.sliceBounds, e1, Instr.sliceBound, asIntOf, sizeOf, typeInfo, hi'', Addr.add]
                · simp [Instr.sliceAt, Instr.slice, run_underlying hd, Instr.sliceBounds, e1, e2, Instr.sliceBound, asIntOf, sizeOf, typeInfo, hi'', Addr.add]
              · have hself : Rep G (.slice (some ad) 0 c) (.slice tip full i'.size []) := .slice (ds := []) ad c tip full i'.size vals hs hc hfull hsz hcell hrep htip
                cases nl with
                | true =>
                  rw [hnl rfl] at hself
                  simpa [aslice, sfull] using Rep.lst _ _ _ _ hself
                | false => simpa [aslice, sfull] using hself
            obtain ⟨b, off, sp⟩ := ad
            have hs := hs hne
            simp only at hs
            subst hs
            refine fin _ (.slice (some (if c - p.toNat = 0 then (⟨b, off, none⟩ : Addr) else ⟨b, off + p.toNat * i'.size, none⟩)) (q.toNat - p.toNat) (c - p.toNat)) _ rfl ?_ (rep nl tip full ds b off c vals hnl hc hfull hsz hcell hrep htip p.toNat q.toNat none (c - p.toNat) (by omega) (by omega) (by omega) (by simp) (by simp)) hk
            have e9 : (if c = p.toNat then (⟨b, off, none⟩ : Addr) else ⟨b, off + p.toNat * i'.size, none⟩) = if c - p.toNat = 0 then (⟨b, off, none⟩ : Addr) else ⟨b, off + p.toNat * i'.size, none⟩ := by
              by_cases hcp : c = p.toNat
              · rw [if_pos hcp, if_pos (by omega)]
              · rw [if_neg hcp, if_neg (by omega)]
            rw [← e9]
            have hqc : q ≤ ((c : Nat) : Int) := by omega
            rcases obound_run hF hp with ⟨rfl, rfl⟩ | ⟨k1, e1⟩ <;> rcases obound_run hF hq with ⟨rfl, rfl⟩ | ⟨k2, e2⟩
            · simp [Instr.sliceAt, Instr.slice, run_underlying hd, Instr.sliceBounds, sizeOf, typeInfo, hi''] <;> (first | (intro _; exact addr_add b off 0) | (split <;> (rename_i h9; simp [h9, addr_add])))
            · simp [Instr.sliceAt, Instr.slice, run_underlying hd, Instr.sliceBounds, e2, bound_run (show (0 : Int) ≤ q by omega) hqc, sizeOf, typeInfo, hi''] <;> (first | (intro _; exact addr_add b off 0) | (split <;> (rename_i h9; simp [h9, addr_add])))
            · simp [Instr.sliceAt, Instr.slice, run_underlying hd, Instr.sliceBounds, e1, bound_run h0 (show p ≤ ((ds.length : Nat) : Int) by omega), sizeOf, typeInfo, hi''] <;> (first | (intro _; exact addr_add b off 0) | (split <;> (rename_i h9; simp [h9, addr_add])))
            · have e3 : p ≤ ((q.toNat : Nat) : Int) := by omega
              simp [Instr.sliceAt, Instr.slice, run_underlying hd, Instr.sliceBounds, e1, e2, bound_run (show (0 : Int) ≤ q by omega) hqc, bound_run h0 e3, sizeOf, typeInfo, hi''] <;> (first | (intro _; exact addr_add b off 0) | (split <;> (rename_i h9; simp [h9, addr_add])))
      · exact h.elim
    · rename_i nl tip full sz ds mo hx
      obtain ⟨rfl, hhi, h⟩ := h
      split at h
      · rename_i p q km m hp hq hm
        obtain ⟨h0, h1, h2, h3, hk⟩ := h
        have hme := hF.ev mo
        rw [hm] at hme
        rcases hev.list_inv hx with ⟨rfl, rfl, hv, rfl⟩ | hev
        · have hm0 : m = 0 := by simp at h3; omega
          have hp0 : p = 0 := by omega
          have hq0 : q = 0 := by omega
          subst hp0; subst hq0; subst hm0
          refine fin _ (.slice none 0 0) _ hv ?_ (by simpa [aslice] using Rep.lst0 _ _) hk
          rcases obound_run hF hq with ⟨rfl, _⟩ | ⟨k2, e2⟩
          · simp at hhi
          · rcases obound_run hF hp with ⟨rfl, _⟩ | ⟨k1, e1⟩
            · simp [Instr.sliceAt, Instr.slice, run_underlying hd, Instr.sliceBounds, e2, hme.v_inv, Instr.sliceBound, asIntOf, sizeOf, typeInfo, hi'']
            · simp [Instr.sliceAt, Instr.slice, run_underlying hd, Instr.sliceBounds, e1, e2, hme.v_inv, Instr.sliceBound, asIntOf, sizeOf, typeInfo, hi'']
        · have hnl : nl = true → tip = none := by
            rintro rfl
            generalize (ev F x) = dx at hx
            cases dx <;> simp_all [D.list]
          generalize hy : a.eval x = y at hev fin
          cases hev with
          | slice ad c _ _ _ _ vals hs hc hfull hsz hcell hrep htip =>
            by_cases hne : ds = []
            · subst hne
              have hm0 : m = 0 := by simp at h3; omega
              have hp0 : p = 0 := by omega
              have hq0 : q = 0 := by omega
              subst hp0; subst hq0; subst hm0
              refine fin _ (.slice (some ad) 0 0) _ rfl ?_ ?_ hk
              · rcases obound_run hF hq with ⟨rfl, _⟩ | ⟨k2, e2⟩
                · simp at hhi
                · rcases obound_run hF hp with ⟨rfl, _⟩ | ⟨k1, e1⟩
                  · simp [Instr.sliceAt, Instr.slice, run_underlying hd, Instr.sliceBounds, e2, hme.v_inv, Instr.sliceBound, asIntOf, sizeOf, typeInfo, hi'']
                  · simp [Instr.sliceAt, Instr.slice, run_underlying hd, Instr.sliceBounds, e1, e2, hme.v_inv, Instr.sliceBound, asIntOf, sizeOf, typeInfo, hi'']
              · have hself : Rep G (.slice (some ad) 0 0) (.slice none true i'.size []) := .slice (ds := []) ad 0 none true i'.size vals hs (Nat.le_refl _) (by simp) hsz hcell hrep (by simp)
                cases nl with
                | true => simpa [aslice, sfull] using Rep.lst _ _ _ _ hself
                | false => simpa [aslice, sfull] using hself
            obtain ⟨b, off, sp⟩ := ad
            have hs := hs hne
            simp only at hs
            subst hs
            refine fin _ (.slice (some (if m.toNat - p.toNat = 0 then (⟨b, off, none⟩ : Addr) else ⟨b, off + p.toNat * i'.size, none⟩)) (q.toNat - p.toNat) (m.toNat - p.toNat)) _ rfl ?_ (rep nl tip full ds b off c vals hnl hc hfull hsz hcell hrep htip p.toNat q.toNat (some m.toNat) (m.toNat - p.toNat) (by omega) (by omega) (by omega) (by intro k hk1 hk2; injection hk1 with hk1; omega) (by simp)) hk
            have e9 : (if m.toNat = p.toNat then (⟨b, off, none⟩ : Addr) else ⟨b, off + p.toNat * i'.size, none⟩) = if m.toNat - p.toNat = 0 then (⟨b, off, none⟩ : Addr) else ⟨b, off + p.toNat * i'.size, none⟩ := by
              by_cases hcp : m.toNat = p.toNat
              · rw [if_pos hcp, if_pos (by omega)]
              · rw [if_neg hcp, if_neg (by omega)]
            rw [← e9]
            have hmc : m ≤ ((c : Nat) : Int) := by omega
            have hqm : q ≤ ((m.toNat : Nat) : Int) := by omega
            have e3 : p ≤ ((q.toNat : Nat) : Int) := by omega
            rcases obound_run hF hq with ⟨rfl, rfl⟩ | ⟨k2, e2⟩
            · simp at hhi
            · rcases obound_run hF hp with ⟨rfl, rfl⟩ | ⟨k1, e1⟩
              · simp [Instr.sliceAt, Instr.slice, run_underlying hd, Instr.sliceBounds, e2, hme.v_inv, bound_run (show (0 : Int) ≤ m by omega) hmc, bound_run (show (0 : Int) ≤ q by omega) hqm, sizeOf, typeInfo, hi''] <;> (first | (intro _; exact addr_add b off 0) | (split <;> (rename_i h9; simp [h9, addr_add])))
              · simp [Instr.sliceAt, Instr.slice, run_underlying hd, Instr.sliceBounds, e1, e2, hme.v_inv, bound_run (show (0 : Int) ≤ m by omega) hmc, bound_run (show (0 : Int) ≤ q by omega) hqm, bound_run h0 e3, sizeOf, typeInfo, hi''] <;> (first | (intro _; exact addr_add b off 0) | (split <;> (rename_i h9; simp [h9, addr_add])))
      · exact h.elim
    · exact h.elim
  · exact h.elim
end
end Go.Proofs.YtmpbofmhjjgccaaDoor
/-
  Operations as they are reasoned about: append.
-/
namespace Go.Proofs.YtmpbofmhjjgccaaDoor
open Go.RowKit
set_option linter.unusedVariables false
set_option linter.unusedSimpArgs false

section
variable {base w w' : World} {G : Gh} {σ : St}
/-- In a list's own block it grows. -/
def Gh.more (G : Gh) (b k : Nat) (xs : List Value) : Gh := fun b' o => if b' = b ∧ k ≤ o ∧ o < k + xs.length then xs[o - k]? else G b' o
theorem Gh.le_more {b k : Nat} (h : ∀ o, k ≤ o → G b o = none) (xs : List Value) : G.le (G.more b k xs) := fun b' o v hv => by
  have : ¬ (b' = b ∧ k ≤ o ∧ o < k + xs.length) := by
    rintro ⟨rfl, h2, _⟩
    rw [h o h2] at hv
    cases hv
  simp only [Gh.more, if_neg this]
  exact hv
theorem Gh.more_in {b k o : Nat} {xs : List Value} (h1 : k ≤ o) (h2 : o < k + xs.length) : G.more b k xs b o = xs[o - k]? := by
  unfold Gh.more
  rw [if_pos ⟨rfl, h1, h2⟩]
theorem Gh.more_out {b k c o : Nat} {xs : List Value} (h : ¬ (c = b ∧ k ≤ o ∧ o < k + xs.length)) : G.more b k xs c o = G c o := by
  unfold Gh.more
  rw [if_neg h]
theorem Sim.dropOwn (h : Sim base w G σ) (b : Nat) : Sim base w G (σ.set b none) := h.weaken St.none_le
theorem Sim.more (h : Sim base w G σ) {b : Nat} {T : TypeId} {sz cap n m : Nat} (ht : σ.own b = some (.tip T sz cap n)) (hn : n + m ≤ cap) (cur : Array Value) (hc : w.heap[b]? = some (.cells cur T (0, 0))) (news : List Value) (hl : news.length = m * sz) (h1 : ∀ x ∈ news, x.oneCell' = true) :
    Sim base (w.setRow b (cur.toList.take (n * sz) ++ news ++ cur.toList.drop (n * sz + news.length)).toArray) (G.more b (n * sz) news) (σ.set b (some (.tip T sz cap (n + m)))) := by
  obtain ⟨g1, g3, g4, g5, cur', g6, g7⟩ := h.own b _ ht
  rw [hc] at g6
  injection g6 with g6
  injection g6 with g6
  subst g6
  have hle := Gh.le_more (G := G) g3 news
  have hcs : n * sz + news.length ≤ cur.toList.length := by
    rw [hl, ← Nat.add_mul, Array.length_toList, g7]
    exact Nat.mul_le_mul_right _ hn
  have hlen : (cur.toList.take (n * sz) ++ news ++ cur.toList.drop (n * sz + news.length)).length = cur.size := by
    simp only [List.length_append, List.length_take, List.length_drop, Array.length_toList] at hcs ⊢
    omega
  have hrow := setRow_heap w b cur (cur.toList.take (n * sz) ++ news ++ cur.toList.drop (n * sz + news.length)).toArray T (0, 0) hc
  refine h.upd _ (h.own_below g1 (below_setRow w b _)) (fun k _ hk => setRow_other w b k _ hk) hle (fun k o hk => ?_) (fun o v hv => ?_) (fun y hy => ?_)
  · exact Gh.more_out fun h => hk h.1
  · by_cases e : n * sz ≤ o ∧ o < n * sz + news.length
    · obtain ⟨e2, e3⟩ := e
      rw [Gh.more_in e2 e3] at hv
      refine ⟨?_, h1 v (List.mem_of_getElem? hv)⟩
      rw [blk_cell hrow, List.getElem?_toArray, List.append_assoc, List.getElem?_append_right (by rw [List.length_take]; omega), List.getElem?_append_left (by rw [List.length_take]; omega), List.length_take, Nat.min_eq_left (by omega)]
      exact hv
    · rw [Gh.more_out (fun h => e h.2)] at hv
      obtain ⟨k1, k2⟩ := h.data b o v hv
      refine ⟨?_, k2⟩
      have ho : o < n * sz := by
        rcases Nat.lt_or_ge o (n * sz) with h5 | h5
        · exact h5
        · rw [g3 o h5] at hv; cases hv
      rw [blk_cell hc] at k1
      rw [blk_cell hrow, List.getElem?_toArray, List.append_assoc, List.getElem?_append_left (by rw [List.length_take]; omega), List.getElem?_take, if_pos ho]
      simpa using k1
  · injection hy with hy
    subst hy
    refine ⟨g1, fun o ho => ?_, g4, hn, _, hrow, ?_⟩
    · rw [Gh.more_out (by rw [hl, ← Nat.add_mul]; omega)]
      exact g3 o (by rw [Nat.add_mul] at ho; omega)
    · rw [List.size_toArray, hlen, g7]
end
section
variable {P : Program} {o : Oper} {a : Act} {F : Fr} {σ : St} {K : D → St → Prop} {n : Nat} {df : List Deferred} {E : Value → St → Prop} {base w : World} {G : Gh} {next : Act → World → Prop} {Q : Exit → Act → World → Prop}
theorem Rep.two {ad : Addr} {c : Nat} {sz : Nat} {old new : List (List D)} {us vs : List Value} {tip : Option (Nat × Nat)} (hs : old ++ new ≠ [] → ad.spot = none) (hc : old.length + new.length ≤ c) (ho : ∀ cs ∈ old, cs.length = sz) (hn : ∀ cs ∈ new, cs.length = sz)
    (hu : RepL G us old.flatten) (hv : RepL G vs new.flatten) (hcell : ∀ k x, (us ++ vs)[k]? = some x → G ad.block (ad.off + k) = some x) (htip : ∀ b cap, tip = some (b, cap) → ad = ⟨b, 0, none⟩ ∧ c = cap) :
    Rep G (.slice (some ad) (old.length + new.length) c) (.slice tip false sz (old ++ new)) := by
  have hlen : (old ++ new).length = old.length + new.length := List.length_append
  have hall : ∀ cs ∈ old ++ new, cs.length = sz := fun cs h => by
    rcases List.mem_append.1 h with h | h
    · exact ho cs h
    · exact hn cs h
  have hl : (us ++ vs).length = (old ++ new).length * sz := by
    rw [← flat_len _ hall, List.flatten_append, List.length_append, List.length_append, hu.len, hv.len]
  rw [← hlen]
  have hr : RepL G (us ++ vs) (old ++ new).flatten := by rw [List.flatten_append]; exact hu.append hv
  refine .slice ad c tip false sz _ (fun k => (us ++ vs).getD k undef) hs (by rw [hlen]; exact hc) (by simp) hall (fun k hk => ?_) (fun k d hd => ?_) htip
  · have hk' : k < (us ++ vs).length := by rw [hl]; exact hk
    rw [hcell k _ (List.getElem?_eq_getElem hk'), List.getD_eq_getElem?_getD, List.getElem?_eq_getElem hk']
    rfl
  · have hk' : k < (us ++ vs).length := by
      rw [hl, ← flat_len _ hall]
      exact (List.getElem?_eq_some_iff.1 hd).1
    rw [List.getD_eq_getElem?_getD, List.getElem?_eq_getElem hk']
    exact hr.rep k _ d (List.getElem?_eq_getElem hk') hd
/-- A list's cells, as they lie. -/
structure CellsAt (w : World) (G : Gh) (ad : Addr) (sz : Nat) (ds : List (List D)) (us : List Value) : Prop where
  size : ∀ cs ∈ ds, cs.length = sz
  rep : RepL G us ds.flatten
  len : us.length = ds.length * sz
  cell : ∀ j u, us[j]? = some u → w.cell? (ad.add j) = some u
  one : ∀ u ∈ us, u.oneCell' = true
theorem Rep.cells_of {x : Value} {tip : Option (Nat × Nat)} {full : Bool} {sz : Nat} {ds : List (List D)} (hS : Sim base w G σ) (h : Rep G x (.slice tip full sz ds)) :
    ∃ ad c us, x = .slice (some ad) ds.length c ∧ ds.length ≤ c ∧ (full = true → c = ds.length) ∧ CellsAt w G ad sz ds us ∧ (∀ b' cap, tip = some (b', cap) → ad = ⟨b', 0, none⟩ ∧ c = cap) ∧ ∀ k u, us[k]? = some u → G ad.block (ad.off + k) = some u := by
  cases h with
  | slice ad c _ _ _ _ vals hs hc hfull hsz hcell hrep htip =>
    have hget : ∀ k u, ((List.range (ds.length * sz)).map vals)[k]? = some u → k < ds.length * sz ∧ u = vals k := by
      intro k u h
      rw [List.getElem?_map] at h
      obtain ⟨q, hq, rfl⟩ := Option.map_eq_some_iff.1 h
      obtain ⟨hlt, he⟩ := List.getElem?_eq_some_iff.1 hq
      simp at he hlt
      subst he
      exact ⟨hlt, rfl⟩
    refine ⟨ad, c, (List.range (ds.length * sz)).map vals, rfl, hc, hfull, ⟨hsz, ⟨by rw [flat_len _ hsz]; simp, fun k u d h1 h2 => ?_⟩, by simp, fun j u hj => ?_, fun u hu => ?_⟩, fun b' cap ht => htip b' cap ht, fun k u hk => ?_⟩
    · obtain ⟨_, rfl⟩ := hget k u h1
      exact hrep k d h2
    · obtain ⟨h1, rfl⟩ := hget j u hj
      obtain ⟨b, off, sp⟩ := ad
      have hs := hs (by rintro rfl; simp at h1)
      simp only at hs
      subst hs
      rw [addr_add]
      exact (hS.data _ _ _ (hcell j h1)).1
    · obtain ⟨k, hk⟩ := List.mem_iff_getElem?.1 hu
      obtain ⟨h1, rfl⟩ := hget k u hk
      exact (hS.data _ _ _ (hcell k h1)).2
    · obtain ⟨h1, rfl⟩ := hget k u hk
      exact hcell k h1
/-- The elements of what is appended. -/
theorem elems_of {y : Value} {d : D} {sz : Nat} {ds : List (List D)} (hS : Sim base w G σ) (h : Rep G y d) (hd : aelems σ sz d = some ds) :
    ∃ p c, y = .slice p ds.length c ∧ (ds = [] ∨ ∃ ad us, p = some ad ∧ CellsAt w G ad sz ds us) := by
  unfold aelems at hd
  split at hd
  · split at hd
    · rename_i e; subst e
      injection hd with hd; subst hd
      obtain ⟨ad, c, us, rfl, _, _, hc, _⟩ := h.cells_of hS
      exact ⟨_, _, rfl, .inr ⟨ad, us, rfl, hc⟩⟩
    · cases hd
  · split at hd
    · rename_i e; subst e
      injection hd with hd; subst hd
      cases h with
      | lst0 => exact ⟨_, _, rfl, .inl rfl⟩
      | lst _ _ _ _ h =>
        obtain ⟨ad, c, us, rfl, _, _, hc, _⟩ := h.cells_of hS
        exact ⟨_, _, rfl, .inr ⟨ad, us, rfl, hc⟩⟩
    · cases hd
  · injection hd with hd; subst hd
    have := h.v_inv
    subst this
    exact ⟨_, _, rfl, .inl rfl⟩
  · rename_i b sz' cap o' n'
    split at hd
    · rename_i T sz2 cap2 ds0 hown
      split at hd
      · rename_i e
        obtain ⟨rfl, rfl, rfl, hon⟩ := e
        injection hd with hd
        subst hd
        obtain ⟨_, _, _, _, hds, vs, rest, hh, hlen, hr, h1⟩ := hS.own b _ hown
        have hl2 : ((ds0.drop o').take n').length = n' := by rw [List.length_take, List.length_drop]; omega
        cases h with
        | arr _ off c _ _ _ _ hof h0 hnc =>
          refine ⟨some ⟨b, off, none⟩, c, by rw [hl2], ?_⟩
          by_cases hn0 : n' = 0
          · left; rw [hn0]; simp
          · have hof : off = o' * sz2 := by
              rcases hof with h | h
              · exact absurd h hn0
              · exact h
            subst hof
            have hvl : vs.length = ds0.length * sz2 := hr.len.trans (flat_len ds0 hds)
            have hfl : ((ds0.drop o').take n').flatten = (ds0.flatten.drop (o' * sz2)).take (n' * sz2) := by
              rw [flat_take _ n' (fun c hc => hds c (List.mem_of_mem_drop hc)), flat_drop ds0 o' hds]
            have hbd : o' * sz2 + n' * sz2 ≤ vs.length := by
              rw [hvl, ← Nat.add_mul]
              exact Nat.mul_le_mul_right _ hon
            refine .inr ⟨_, (vs.drop (o' * sz2)).take (n' * sz2), rfl, fun cs hcs => hds cs (List.mem_of_mem_drop (List.mem_of_mem_take hcs)), ?_, ?_, fun j u hj => ?_, fun u hu => h1 u (List.mem_of_mem_drop (List.mem_of_mem_take hu))⟩
            · rw [hfl]
              exact (hr.drop _).take _
            · rw [hl2, List.length_take, List.length_drop]
              omega
            · rw [List.getElem?_take] at hj
              split at hj
              · rename_i hjn
                rw [List.getElem?_drop] at hj
                rw [addr_add, blk_cell hh, List.getElem?_toArray, List.getElem?_append_left (by omega)]
                exact hj
              · cases hj
      · cases hd
    · cases hd
  · cases hd
theorem size_le {z : Value} {i : TypeInfo} (h : z.cells.toList.length = i.size) : z.cells.size = i.size := by simpa using h
/-- An append that makes a new block. -/
theorem grow_run {e t ty : TypeId} {i : TypeInfo} {z : Value} {old new : List (List D)} (ht : P.underlying t = some (.slice e)) (hi : P.info? e = some i) (hz : i.zero = some z) (hzs : z.cells.toList.length = i.size)
    {x : Value} {ad a0 : Addr} {c : Nat} {us news : List Value} (ho : CellsAt w G a0 i.size old us) (hn : CellsAt w G ad i.size new news)
    (hx : (x = .slice none 0 0 ∧ old = [] ∧ 0 < new.length) ∨ ∃ cap, x = .slice (some a0) old.length cap ∧ cap < old.length + new.length)
    (hpos : 0 < i.size) (h1 : (old.length + new.length) * i.bytes ≤ 140737488355328) (h2 : old.length + new.length ≤ 140737488355328) :
    ∃ cap' tail w', (Builtin.append_ #[t, t] ty #[x, .slice (some ad) new.length c]).run P w = .ok (.slice (some ⟨w.heap.size, 0, none⟩) (old.length + new.length) cap') w' ∧ Below w.heap.size w w' ∧
      w'.heap[w.heap.size]? = some (.cells (us ++ news ++ tail).toArray e (0, 0)) ∧ old.length + new.length ≤ cap' ∧ cap' ≤ maxLen ∧ (us ++ news ++ tail).length = cap' * i.size := by
  have hzz := size_le hzs
  have fin : ∀ old' : Nat, ∃ cap' tail w', cap' = grownCap w (old.length + new.length) old' e ∧ w' = w.drew.alloc (.cells (us.toArray ++ news.toArray ++ Builtin.zeroCells z.cells (grownCap w (old.length + new.length) old' e - (old.length + new.length))) e) ∧ Below w.heap.size w w' ∧
      w'.heap[w.heap.size]? = some (.cells (us ++ news ++ tail).toArray e (0, 0)) ∧ old.length + new.length ≤ cap' ∧ cap' ≤ maxLen ∧ (us ++ news ++ tail).length = cap' * i.size := by
    intro old'
    have hge := grownCap_ge w (old.length + new.length) old' e
    have hcm := grownCap_le_maxLen w (old.length + new.length) old' e (by unfold maxLen; omega)
    refine ⟨_, (Builtin.zeroCells z.cells (grownCap w (old.length + new.length) old' e - (old.length + new.length))).toList, _, rfl, rfl, ((Below.refl w.heap.size w).drew).alloc (Nat.le_refl _) _, (by refine (heap_alloc_new w.drew _).trans ?_; simp), hge, hcm, ?_⟩
    simp only [List.length_append, Array.length_toList, size_zeroCells, ho.len, hn.len, hzz, ← Nat.add_mul]
    congr 1
    omega
  rcases hx with ⟨rfl, rfl, hpos'⟩ | ⟨cap, rfl, hlt⟩
  · have hu0 : us = [] := List.eq_nil_of_length_eq_zero (by simpa using ho.len)
    subst hu0
    obtain ⟨cap', tail, w', rfl, rfl, h3⟩ := fin 0
    refine ⟨_, tail, _, ?_, h3⟩
    have hr := run_append_nil (P := P) w t ty e i z ht hi hz ad new.length c news hn.len hn.cell hpos' (by simp at h2; omega) (by simp at h1; omega)
    simpa using hr
  · obtain ⟨cap', tail, w', rfl, rfl, h3⟩ := fin cap
    refine ⟨_, tail, _, ?_, h3⟩
    exact run_append_grow (P := P) w t ty e i z ht hi hz a0 old.length cap us ho.len ho.cell ad new.length c news hn.len hn.cell (by omega) (by omega) (growslice_fits (by omega) h1)
/-- Behind it, the list may grow again. -/
theorem grown_tip {T : TypeId} {sz cap' : Nat} {old new : List (List D)} {us news tail : List Value} {w' : World} {a0 ad : Addr} (hS : Sim base w G σ) (hb : Below w.heap.size w w')
    (hw : w'.heap[w.heap.size]? = some (.cells (us ++ news ++ tail).toArray T (0, 0))) (hcap : old.length + new.length ≤ cap') (hcm : cap' ≤ maxLen) (hsz : (us ++ news ++ tail).length = cap' * sz) (ho : CellsAt w G a0 sz old us) (hn : CellsAt w G ad sz new news) :
    G.le (G.add w.heap.size (us ++ news)) ∧ Sim base w' (G.add w.heap.size (us ++ news)) (σ.set w.heap.size (some (.tip T sz cap' (old.length + new.length)))) ∧
      Rep (G.add w.heap.size (us ++ news)) (.slice (some ⟨w.heap.size, 0, none⟩) (old.length + new.length) cap') (.slice (some (w.heap.size, cap')) false sz (old ++ new)) := by
  have hle := hS.le_add (us ++ news) (Nat.le_refl w.heap.size)
  have h1 : ∀ y ∈ us ++ news, y.oneCell' = true := fun y hy => by
    rcases List.mem_append.1 hy with hy | hy
    · exact ho.one y hy
    · exact hn.one y hy
  have hS' := hS.newData hb T (us ++ news) tail hw h1
  refine ⟨hle, ?_, ?_⟩
  · refine hS'.newTip (hS.below.size) (fun o ho' => ?_) hcm hcap hw (by simpa using hsz)
    rw [Gh.add_same]
    exact List.getElem?_eq_none (by rw [List.length_append, ho.len, hn.len, ← Nat.add_mul]; exact ho')
  · refine Rep.two (fun _ => rfl) hcap ho.size hn.size (ho.rep.mono hle) (hn.rep.mono hle) (fun k x hx => ?_) (by intro b cap h; injection h with h; injection h with h h'; subst h; subst h'; exact ⟨rfl, rfl⟩)
    show G.add w.heap.size (us ++ news) w.heap.size (0 + k) = some x
    rw [Gh.add_same, Nat.zero_add]
    exact hx
/-- Behind it, it is one's own. -/
theorem grown_arr {T : TypeId} {sz cap' : Nat} {old new : List (List D)} {us news tail : List Value} {w' : World} {a0 ad : Addr} (hS : Sim base w G σ) (hb : Below w.heap.size w w')
    (hw : w'.heap[w.heap.size]? = some (.cells (us ++ news ++ tail).toArray T (0, 0))) (hcap : old.length + new.length ≤ cap') (hcm : cap' ≤ maxLen) (hsz : (us ++ news ++ tail).length = cap' * sz) (ho : CellsAt w G a0 sz old us) (hn : CellsAt w G ad sz new news) :
    Sim base w' G (σ.set w.heap.size (some (.arr T sz cap' (old ++ new)))) ∧ Rep G (.slice (some ⟨w.heap.size, 0, none⟩) (old.length + new.length) cap') (.arr w.heap.size sz cap' 0 (old ++ new).length) := by
  refine ⟨hS.new hb _ ⟨fun o => hS.fresh_data (Nat.le_refl _) o, hcm, by simpa using hcap, fun cs h => ?_, us ++ news, tail, hw, hsz, by rw [List.flatten_append]; exact ho.rep.append hn.rep, fun y hy => ?_⟩, ?_⟩
  · rcases List.mem_append.1 h with h | h
    · exact ho.size cs h
    · exact hn.size cs h
  · rcases List.mem_append.1 hy with hy | hy
    · exact ho.one y hy
    · exact hn.one y hy
  · rw [List.length_append]
    exact .arr _ _ _ _ _ _ _ (.inr (by simp)) (fun _ => ⟨rfl, rfl⟩) hcap
theorem CellsAt.nil (w : World) (G : Gh) (ad : Addr) (sz : Nat) : CellsAt w G ad sz [] [] := ⟨by simp, RepL.nil G, by simp, by simp, by simp⟩
end
end Go.Proofs.YtmpbofmhjjgccaaDoor
/-
  Operations as they are reasoned about: append is sound.
-/
namespace Go.Proofs.YtmpbofmhjjgccaaDoor
open Go.RowKit
set_option linter.unusedVariables false
set_option linter.unusedSimpArgs false

section
variable {P : Program} {o : Oper} {a : Act} {F : Fr} {σ : St} {K : D → St → Prop} {n : Nat} {df : List Deferred} {E : Value → St → Prop} {base w : World} {G : Gh} {next : Act → World → Prop} {Q : Exit → Act → World → Prop}
theorem run_append0 {t ty e : TypeId} {i : TypeInfo} (ht : P.underlying t = some (.slice e)) (hi : P.info? e = some i) (ba p : Option Addr) (m c c2 : Nat) (hm : m ≤ c) :
    (Builtin.append_ #[t, t] ty #[.slice ba m c, .slice p 0 c2]).run P w = .ok (.slice ba m c) w := by
  have hl : ∀ b : Addr, (loadCells b 0).run P w = .ok #[] w := fun b => by simp [loadCells, loadCellsFrom]
  have hs : ∀ b : Addr, (storeCells b []).run P w = .ok () w := fun b => by simp [storeCells]
  cases ba <;> cases p <;> simp [Builtin.append_, run_underlying ht, sizeOf, typeInfo, hi, Builtin.lenOf, Builtin.firstCells, hm, hl, hs]
theorem Rep.unfull {x : Value} {tip : Option (Nat × Nat)} {full : Bool} {sz : Nat} {ds : List (List D)} (h : Rep G x (.slice tip full sz ds)) : Rep G x (.slice tip false sz ds) := by
  cases h with
  | slice ad c _ _ _ _ vals hs hc hfull hsz hcell hrep htip => exact .slice ad c tip false sz ds vals hs hc (by simp) hsz hcell hrep htip
theorem Rep.sliceOf {x : Value} {dx : D} (hx : Rep G x dx) (hd1 : dx.isSl) : ∃ ba m c, x = .slice ba m c ∧ m ≤ c := by
  cases hx with
  | v u =>
    cases x <;> try (simp [D.isSl, D.list] at hd1; done)
    rename_i q k c
    rcases q with _ | q
    · rcases k with _ | k
      · rcases c with _ | c
        · exact ⟨none, 0, 0, rfl, Nat.le_refl _⟩
        · simp [D.isSl, D.list] at hd1
      · simp [D.isSl, D.list] at hd1
    · simp [D.isSl, D.list] at hd1
  | slice ad c _ _ _ _ vals hs hc hfull hsz hcell hrep htip => exact ⟨_, _, _, rfl, hc⟩
  | lst0 => exact ⟨_, _, _, rfl, Nat.le_refl _⟩
  | lst _ _ _ _ hx =>
    cases hx with
    | slice ad c _ _ _ _ vals hs hc hfull hsz hcell hrep htip => exact ⟨_, _, _, rfl, hc⟩
  | arr b off c sz cap o n h h0 hn => exact ⟨_, _, _, rfl, hn⟩
  | _ => simp [D.isSl, D.list] at hd1
theorem fresh_drop {b b' : Nat} (h : Fresh σ b) : Fresh (σ.set b' none) b := by
  rw [fresh_set0]
  exact .inr h
def nlD (nl : Bool) (sz : Nat) (ds : List (List D)) : D := if nl then .lst false sz ds else .slice none false sz ds
theorem append_sound {t ty e : TypeId} {l le : LyI} {x y : Value} {dx dy : D} (hl : layOf P t = some l) (hkd : l.kd = .slice e) (hle : layOf P e = some le) (hS : Sim base w G σ) (hx : Rep G x dx) (hy : Rep G y dy) (h : aappend σ e le.size le.bytes dx dy K) :
    ∃ v w' G' d σ', (Builtin.append_ #[t, t] ty #[x, y]).run P w = .ok v w' ∧ G.le G' ∧ Sim base w' G' σ' ∧ Rep G' v d ∧ K d σ' := by
  obtain ⟨i, d, z, fl, hi, hd, hz, hfl, h1', h2', rfl⟩ := layOf_inv hl
  obtain ⟨i', d', z', fl', hi', hd', hz', hfl', h1'', h2'', rfl⟩ := layOf_inv hle
  have hd2 := kd_slice hkd
  subst hd2
  simp only at h
  -- behind a list that makes a new block
  have grow : ∀ (old new : List (List D)) (a0 ad : Addr) (c : Nat) (us news : List Value) (σ1 : St), y = .slice (some ad) new.length c → Sim base w G σ1 → CellsAt w G a0 i'.size old us → CellsAt w G ad i'.size new news →
      ((x = .slice none 0 0 ∧ old = [] ∧ 0 < new.length) ∨ ∃ cap, x = .slice (some a0) old.length cap ∧ cap < old.length + new.length) → ∀ K' : D → St → Prop,
      (agrow σ1 e i'.size i'.bytes old new σ1 K' ∨ agrowO e i'.size i'.bytes (old ++ new) σ1 K') →
      ∃ v w' G' d σ', (Builtin.append_ #[t, t] ty #[x, y]).run P w = .ok v w' ∧ G.le G' ∧ Sim base w' G' σ' ∧ Rep G' v d ∧ K' d σ' := by
    intro old new a0 ad c us news σ1 hyv hS1 hco hcn hxx K' hg
    subst hyv
    rcases hg with ⟨hpos, hb1, hb2, hk⟩ | ⟨hpos, hb1, hb2, hk⟩
    · obtain ⟨cap', tail, w', hr, hB, hh, hge, hcm, hln⟩ := grow_run (P := P) (ty := ty) (c := c) hd hi' hz' h2'' hco hcn hxx hpos hb1 hb2
      obtain ⟨g1, g2, g3⟩ := grown_tip hS1 hB hh hge hcm hln hco hcn
      exact ⟨_, w', _, _, _, hr, g1, g2, g3, hk _ _ (hS1.fresh (Nat.le_refl _)) hge⟩
    · rw [List.length_append] at hb1 hb2
      obtain ⟨cap', tail, w', hr, hB, hh, hge, hcm, hln⟩ := grow_run (P := P) (ty := ty) (c := c) hd hi' hz' h2'' hco hcn hxx hpos hb1 hb2
      obtain ⟨g2, g3⟩ := grown_arr hS1 hB hh hge hcm hln hco hcn
      exact ⟨_, w', G, _, _, hr, G.le_refl, g2, g3, hk _ _ (hS1.fresh (Nat.le_refl _)) (by simpa using hge)⟩
  -- a list that is full
  have full : ∀ (old new : List (List D)), (x = .slice none 0 0 ∧ old = []) ∨ Rep G x (.slice none true i'.size old) → aelems σ i'.size dy = some new → new ≠ [] → ∀ K' : D → St → Prop,
      (agrow σ e i'.size i'.bytes old new σ K' ∨ agrowO e i'.size i'.bytes (old ++ new) σ K') →
      ∃ v w' G' d σ', (Builtin.append_ #[t, t] ty #[x, y]).run P w = .ok v w' ∧ G.le G' ∧ Sim base w' G' σ' ∧ Rep G' v d ∧ K' d σ' := by
    intro old new hxx hly hne K' hg
    have hpl : 0 < new.length := List.length_pos_iff.2 hne
    obtain ⟨p, c, rfl, h0 | ⟨ad, news, rfl, hcn⟩⟩ := elems_of hS hy hly
    · exact absurd h0 hne
    · rcases hxx with ⟨hx0, rfl⟩ | hrx
      · exact grow [] new ad ad c [] news σ rfl hS (.nil w G ad i'.size) hcn (.inl ⟨hx0, rfl, hpl⟩) K' hg
      · obtain ⟨a0, c0, us, hxv, hc, hf, hco, _, _⟩ := hrx.cells_of hS
        have := hf rfl
        subst this
        exact grow old new a0 ad c us news σ rfl hS hco hcn (.inr ⟨_, hxv, by omega⟩) K' hg
  have keep : ∀ (old new : List (List D)) (nl : Bool), (x = .slice none 0 0 ∧ old = [] ∧ nl = true) ∨ Rep G x (.slice none true i'.size old) → aelems σ i'.size dy = some new → 0 < i'.size → (old.length + new.length) * i'.bytes ≤ 140737488355328 → old.length + new.length ≤ 140737488355328 →
      K (nlD nl i'.size (old ++ new)) σ →
      ∃ v w' G' d σ', (Builtin.append_ #[t, t] ty #[x, y]).run P w = .ok v w' ∧ G.le G' ∧ Sim base w' G' σ' ∧ Rep G' v d ∧ K d σ' := by
    intro old new nl hxx hly hpos hb1 hb2 hk
    have nlr : ∀ (G' : Gh) (v : Value) (ds : List (List D)), Rep G' v (.slice none false i'.size ds) → Rep G' v (nlD nl i'.size ds) := fun G' v ds h => by
      cases nl
      · exact h
      · exact .lst _ _ _ _ h
    by_cases hne : new = []
    · subst hne
      obtain ⟨p, c2, rfl, _⟩ := elems_of hS hy hly
      rw [List.append_nil] at hk
      rcases hxx with ⟨rfl, rfl, rfl⟩ | hx2
      · exact ⟨_, w, G, _, σ, run_append0 hd hi' none p 0 0 c2 (Nat.le_refl _), G.le_refl, hS, .lst0 _ _, hk⟩
      · obtain ⟨a0, c0, us, rfl, hc, _⟩ := hx2.cells_of hS
        exact ⟨_, w, G, _, σ, run_append0 hd hi' _ p _ _ c2 hc, G.le_refl, hS, nlr G _ _ hx2.tipless, hk⟩
    · obtain ⟨v, w', G', d, σ', h1, h2, h3, h4, ⟨b, cap, rfl⟩, h6⟩ := full old new (hxx.imp (fun h => ⟨h.1, h.2.1⟩) id) hly hne (fun d σ' => (∃ b cap, d = .slice (some (b, cap)) false i'.size (old ++ new)) ∧ σ.le σ') (.inl ⟨hpos, hb1, hb2, fun b cap hf _ => ⟨⟨b, cap, rfl⟩, St.le_set (St.le_refl _) hf⟩⟩)
      exact ⟨v, w', G', _, σ, h1, h2, h3.weaken h6, nlr G' v _ h4.tipless, hk⟩
  unfold aappend at h
  split at h
  · -- nil
    rename_i new hly
    have hx0 := hx.v_inv
    by_cases hne : new = []
    · subst hne
      obtain ⟨p, c, rfl, _⟩ := elems_of hS hy hly
      subst hx0
      exact ⟨_, w, G, _, σ, run_append0 hd hi' none p 0 0 c (Nat.le_refl _), G.le_refl, hS, .v _, h.1 rfl⟩
    · exact full [] new (.inl ⟨hx0, rfl⟩) hly hne K (h.2 hne)
  · -- it may grow
    rename_i b cap fl0 sz'' old new hly
    obtain ⟨htip, rfl, hpos, hb1, hb2, hk⟩ := h
    obtain ⟨g1, g3, g4, g5, cur, g6, g7⟩ := hS.own b _ htip
    obtain ⟨a0, c, us, rfl, hc, hf, hco, ht2, huG⟩ := hx.cells_of hS
    obtain ⟨rfl, rfl⟩ := ht2 b cap rfl
    by_cases hne : new = []
    · subst hne
      obtain ⟨p, c2, rfl, _⟩ := elems_of hS hy hly
      refine ⟨_, w, G, _, _, run_append0 hd hi' _ p _ _ c2 hc, G.le_refl, ?_, ?_, hk b c (own_same _ _ _) (by simpa using hc)⟩
      · rw [set_set]
        exact hS.newTip g1 (by simpa using g3) g4 (by simpa using g5) g6 g7
      · rw [List.append_nil]
        exact hx.unfull
    · obtain ⟨p, c2, rfl, h0 | ⟨ad, vs, rfl, hcn⟩⟩ := elems_of hS hy hly
      · exact absurd h0 hne
      · by_cases hroom : old.length + new.length ≤ c
        · have hfit : old.length * i'.size + vs.length ≤ cur.size := by rw [hcn.len, g7, ← Nat.add_mul]; exact Nat.mul_le_mul_right _ hroom
          have hr := run_append_room (P := P) (ty := ty) w t e i' hd hi' b old.length c cur g6 ad new.length c2 vs hcn.len hcn.cell hcn.one hroom hfit
          have hm := hS.more htip hroom cur g6 vs hcn.len hcn.one
          have hle' := Gh.le_more (G := G) g3 vs
          refine ⟨_, _, _, _, _, hr, hle', ?_, ?_, hk b c (own_same _ _ _) hroom⟩
          · rw [set_set]
            exact hm
          · refine Rep.two (fun _ => rfl) hroom hco.size hcn.size (hco.rep.mono hle') (hcn.rep.mono hle') (fun k u hk' => ?_) (by intro b cap h; injection h with h; injection h with h h'; subst h; subst h'; exact ⟨rfl, rfl⟩)
            by_cases hlt : k < us.length
            · rw [List.getElem?_append_left hlt] at hk'
              exact hle' _ _ _ (huG k u hk')
            · rw [List.getElem?_append_right (by omega)] at hk'
              have h5 := (List.getElem?_eq_some_iff.1 hk').1
              have hul := hco.len
              show (Gh.more G b (old.length * i'.size) vs) b (0 + k) = some u
              rw [Gh.more_in (by omega) (by omega), Nat.zero_add, ← hul]
              exact hk'
        · exact grow old new ⟨b, 0, none⟩ ad c2 us vs (σ.set b none) rfl (hS.dropOwn b) hco hcn (.inr ⟨c, rfl, by omega⟩) K (.inl ⟨hpos, hb1, hb2, hk⟩)
  · -- full
    rename_i sz'' old new hly
    obtain ⟨rfl, h | ⟨hne, h⟩ | ⟨hne, h⟩⟩ := h
    · exact keep old new false (.inr hx) hly h.2.1 h.2.2.1 h.2.2.2 h.1
    · exact full old new (.inr hx) hly hne K h
    · subst hne
      obtain ⟨p, c2, rfl, _⟩ := elems_of hS hy hly
      obtain ⟨ba, m, c, rfl, hmc⟩ := hx.sliceOf (by simp [D.isSl, D.list])
      exact ⟨_, w, G, _, σ, run_append0 hd hi' ba p m c c2 hmc, G.le_refl, hS, hx, h⟩
  · -- full, or nil
    rename_i sz'' old new hly
    obtain ⟨rfl, h⟩ := h
    have hx2 : (x = .slice none 0 0 ∧ old = []) ∨ Rep G x (.slice none true i'.size old) := by
      rcases hx.list_inv (nl := true) (tip := none) (full := true) rfl with ⟨_, _, h1, h2⟩ | h
      · exact .inl ⟨h1, h2⟩
      · exact .inr h
    rcases h with h | ⟨hne, h⟩ | ⟨hne, h⟩
    · exact keep old new true (hx2.imp (fun h => ⟨h.1, h.2, rfl⟩) id) hly h.2.1 h.2.2.1 h.2.2.2 h.1
    · exact full old new hx2 hly hne K h
    · subst hne
      obtain ⟨p, c2, rfl, _⟩ := elems_of hS hy hly
      obtain ⟨ba, m, c, rfl, hmc⟩ := hx.sliceOf (by simp [D.isSl, D.list])
      exact ⟨_, w, G, _, σ, run_append0 hd hi' ba p m c c2 hmc, G.le_refl, hS, hx, h⟩
  · -- one's own
    rename_i b sz'' cap n' new hly
    split at h
    · rename_i e' sz2 cap2 old hown
      obtain ⟨rfl, rfl, hsz, rfl, hno, hpos, hb1, hb2, hk⟩ := h
      have hsz : sz2 = i'.size := hsz
      subst hsz
      obtain ⟨g1, g2, g3, g4, hds, vs, rest, hh, hln, hr0, h1⟩ := hS.own b _ hown
      have hvl : vs.length = old.length * i'.size := hr0.len.trans (flat_len old hds)
      have htl : (old.take n').length = n' := by rw [List.length_take]; omega
      have hnv : n' * i'.size ≤ vs.length := by rw [hvl]; exact Nat.mul_le_mul_right _ hno
      cases hx with
      | arr _ off c _ _ _ _ hof h0 hnc =>
        obtain ⟨rfl, rfl⟩ := h0 rfl
        have hco : CellsAt w G ⟨b, 0, none⟩ i'.size (old.take n') (vs.take (n' * i'.size)) := ⟨fun cs hcs => hds cs (List.mem_of_mem_take hcs), by rw [flat_take old n' hds]; exact hr0.take _, by rw [htl, List.length_take]; omega, (fun j u hj => by
          rw [List.getElem?_take] at hj
          split at hj
          · rw [addr_add, blk_cell hh, List.getElem?_toArray, Nat.zero_add, List.getElem?_append_left (by omega)]
            exact hj
          · cases hj), fun u hu => h1 u (List.mem_of_mem_take hu)⟩
        by_cases hne : new = []
        · subst hne
          obtain ⟨p, c2, rfl, _⟩ := elems_of hS hy hly
          have := hk b c (own_same _ _ _) (by rw [List.append_nil, htl]; exact hnc)
          rw [set_set, List.append_nil, htl] at this
          refine ⟨_, w, G, _, _, run_append0 hd hi' _ p _ _ c2 hnc, G.le_refl, ?_, .arr b 0 c i'.size c 0 n' (.inr (by simp)) (fun _ => ⟨rfl, rfl⟩) hnc, this⟩
          refine hS.upd _ hS.below (fun _ _ _ => rfl) G.le_refl (fun _ _ _ => rfl) (fun o v hv => by rw [g2 o] at hv; cases hv) (fun y' hy' => ?_)
          injection hy' with hy'
          subst hy'
          refine ⟨g1, g2, g3, by rw [htl]; exact hnc, hco.size, vs.take (n' * i'.size), vs.drop (n' * i'.size) ++ rest, ?_, ?_, hco.rep, hco.one⟩
          · rw [← List.append_assoc, List.take_append_drop]; exact hh
          · rw [← List.append_assoc, List.take_append_drop]; exact hln
        · obtain ⟨p, c2, rfl, h0 | ⟨ad, news, rfl, hcn⟩⟩ := elems_of hS hy hly
          · exact absurd h0 hne
          · by_cases hroom : n' + new.length ≤ c
            · have hfit : n' * i'.size + news.length ≤ ((vs ++ rest).toArray).size := by
                rw [List.size_toArray, hln, hcn.len, ← Nat.add_mul]
                exact Nat.mul_le_mul_right _ hroom
              have hr := run_append_room (P := P) (ty := ty) w t e' i' hd hi' b n' c _ hh ad new.length c2 news hcn.len hcn.cell hcn.one hroom hfit
              have hall : (old.take n' ++ new).length = n' + new.length := by rw [List.length_append, htl]
              have := hk b c (own_same _ _ _) (by rw [hall]; exact hroom)
              rw [set_set, hall] at this
              refine ⟨_, _, G, _, _, hr, G.le_refl, ?_, .arr b 0 c i'.size c 0 _ (.inr (by simp)) (fun _ => ⟨rfl, rfl⟩) hroom, this⟩
              refine hS.upd _ (hS.own_below g1 (below_setRow w b _)) (fun k _ hk => setRow_other w b k _ hk) G.le_refl (fun _ _ _ => rfl) (fun o v hv => by rw [g2 o] at hv; cases hv) (fun y' hy' => ?_)
              injection hy' with hy'
              subst hy'
              have hfit' : n' * i'.size + news.length ≤ (vs ++ rest).length := by simpa using hfit
              refine ⟨g1, g2, g3, by rw [hall]; exact hroom, fun cs hcs => ?_, (vs ++ rest).take (n' * i'.size) ++ news, (vs ++ rest).drop (n' * i'.size + news.length), setRow_heap w b _ _ e' (0, 0) hh, ?_, ?_, fun u hu => ?_⟩
              · rcases List.mem_append.1 hcs with h | h
                · exact hds cs (List.mem_of_mem_take h)
                · exact hcn.size cs h
              · rw [← hln]
                simp only [List.length_append, List.length_take, List.length_drop] at hfit' ⊢
                omega
              · rw [List.flatten_append, List.take_append_of_le_length hnv]
                exact hco.rep.append hcn.rep
              · rcases List.mem_append.1 hu with h | h
                · rw [List.take_append_of_le_length hnv] at h
                  exact h1 u (List.mem_of_mem_take h)
                · exact hcn.one u h
            · exact grow (old.take n') new ⟨b, 0, none⟩ ad c2 _ news (σ.set b none) rfl (hS.dropOwn b) hco hcn (.inr ⟨c, by rw [htl], by rw [htl]; omega⟩) K (.inr ⟨hpos, hb1, hb2, hk⟩)
    · exact h.elim
  · -- behind it nothing
    have hly : aelems σ i'.size dy = some [] := by assumption
    obtain ⟨hd1, hk⟩ := h
    obtain ⟨p, c2, rfl, _⟩ := elems_of hS hy hly
    obtain ⟨ba, m, c, rfl, hmc⟩ := hx.sliceOf hd1
    exact ⟨_, w, G, _, σ, run_append0 hd hi' ba p m c c2 hmc, G.le_refl, hS, hx, hk⟩
  · exact h.elim
end
end Go.Proofs.YtmpbofmhjjgccaaDoor
/-
  Operations as they are reasoned about: maps, conversions, what is made, what is held.
-/
namespace Go.Proofs.YtmpbofmhjjgccaaDoor
open Go.RowKit
set_option linter.unusedVariables false
set_option linter.unusedSimpArgs false

section
variable {P : Program} {o : Oper} {a : Act} {F : Fr} {σ : St} {K : D → St → Prop} {n : Nat} {df : List Deferred} {E : Value → St → Prop} {base w : World} {G : Gh} {next : Act → World → Prop} {Q : Exit → Act → World → Prop}
theorem azero_rep {t : TypeId} {l : LyI} (hl : layOf P t = some l) : (zeroValue t).run P w = .ok l.zv w ∧ Rep G l.zv (azero l) := by
  obtain ⟨i, d, z, fl, hi, hd, hz, hfl, h1, h2, rfl⟩ := layOf_inv hl
  refine ⟨by simp [zeroValue, typeInfo, hi, hz], ?_⟩
  unfold azero
  simp only
  split
  · rename_i cs
    have h1 : ∀ x ∈ cs.toList, x.oneCell' = true := h1
    have := (RepL.mapV (G := G) cs.toList)
    have := Rep.agg (G := G) cs.toList (cs.toList.map .v) this.len h1 this.rep
    rwa [Array.toArray_toList] at this
  · exact .v _
theorem textOf_inv : ∀ {ds : List (List D)} {bs : List UInt8} {us : List Value}, textOf ds = some bs → RepL G us ds.flatten → (∀ cs ∈ ds, cs.length = 1) → ∃ ns : List Int, us = ns.map (Value.int .u8) ∧ bs = ns.map fun n => UInt8.ofNat n.toNat
  | [], bs, us, h, hr, _ => by
    simp [textOf] at h
    subst h
    exact ⟨[], hr.inv0, rfl⟩
  | cs :: ds, bs, us, h, hr, hs => by
    unfold textOf at h
    split at h
    · rename_i he; simp at he
    · rename_i n r he
      obtain ⟨rfl, rfl⟩ := List.cons.inj he
      obtain ⟨q, hq, rfl⟩ := Option.map_eq_some_iff.1 h
      have hr' : RepL G us (.v (.int .u8 n) :: ds.flatten) := by simpa using hr
      obtain ⟨x, xs, rfl, hx, hxs⟩ := hr'.inv
      obtain ⟨ns, rfl, rfl⟩ := textOf_inv hq hxs (fun cs hc => hs cs (by simp [hc]))
      exact ⟨n :: ns, by rw [hx.v_inv]; rfl, rfl⟩
    · cases h
theorem fold_push (ns : List Int) (s : ByteArray) : ns.foldl (fun r n => r.push (UInt8.ofNat n.toNat)) s = ⟨(s.data.toList ++ ns.map fun n => UInt8.ofNat n.toNat).toArray⟩ := by
  induction ns generalizing s with
  | nil => simp
  | cons n ns ih =>
    rw [List.foldl_cons, ih]
    simp [ByteArray.push]
theorem run_loadCells_at {ad : Addr} {us : List Value} (h : ∀ j u, us[j]? = some u → w.cell? (ad.add j) = some u) : (loadCells ad us.length).run P w = .ok us.toArray w := by
  have := run_firstCells_some (P := P) w 1 us.length ad us.length us.length us (by omega) h
  simpa [Builtin.firstCells] using this
theorem snd_convert {s t : TypeId} {x : Operand} (ho : o.op = .convert s t x) (h : aop P o.type F σ K E (.convert s t x)) (hS : Sim base w G σ) (hF : FrRep G a n df F) (hK : Nxt base G a o.dst K next) : o.wp P a w next Q := by
  simp only [aop] at h
  replace h := wo_inv h
  obtain ⟨ls, hls, h⟩ := h
  replace h := wo_inv h
  obtain ⟨lt, hlt, h⟩ := h
  obtain ⟨i, d, z, fl, hi, hd, hz, hfl, h1, h2, rfl⟩ := layOf_inv hls
  obtain ⟨i', d', z', fl', hi', hd', hz', hfl', h1', h2', rfl⟩ := layOf_inv hlt
  have hev := hF.ev x
  have fin : ∀ (u v : Value) (w' : World) (G' : Gh) (dd : D) (σ' : St), a.eval x = u → (convert s t u).run P w = .ok v w' → G.le G' → Sim base w' G' σ' → Rep G' v dd → K dd σ' → o.wp P a w next Q := fun u v w' G' dd σ' hu hr h3 h4 h5 h6 =>
    wp_runI v (by unfold execOp; simp [ho, hu, hr]) (hK v w' G' dd σ' h3 h4 h5 h6)
  split at h
  · rename_i k k' q m e1 e2 e3
    rw [e3] at hev
    have g1 := kd_int e1; have g2 := kd_int e2
    subst g1; subst g2
    exact fin _ (.int k' (k'.wrap m)) w G _ σ hev.v_inv (by simp [convert, run_underlying hd, run_underlying hd', Conv.intToInt]) G.le_refl hS (.v _) h
  · rename_i q e1 e2 e3
    rw [e3] at hev
    have g1 := kd_str e1; have g2 := kd_str e2
    subst g1; subst g2
    exact fin _ (.string q) w G _ σ hev.v_inv (by simp [convert, run_underlying hd, run_underlying hd']) G.le_refl hS (.v _) h
  · rename_i e e1 e2
    have g1 := kd_slice e1; have g2 := kd_str e2
    subst g1; subst g2
    replace h := wo_inv h
    obtain ⟨le, hle, hk8, hs1, h⟩ := h
    replace h := wo_inv h
    obtain ⟨ds, hds, h⟩ := h
    obtain ⟨bs, hbs, hk⟩ := wo_inv h
    obtain ⟨ie, de, ze, fle, hie, hde, hze, hfle, h1e, h2e, rfl⟩ := layOf_inv hle
    have g3 := kd_int (Kd.ints_inv hk8)
    subst g3
    obtain ⟨p, c, hv, hc⟩ := elems_of hS hev hds
    rcases hc with rfl | ⟨ad, us, rfl, hc⟩
    · have hb0 : bs = [] := by simpa [textOf] using hbs.symm
      subst hb0
      refine fin _ (.string ⟨#[]⟩) w G _ σ hv ?_ G.le_refl hS (.v _) (by simpa using hk)
      rw [run_convert_bytes_string w s t e p _ c hd hde hd']
      cases p with
      | none => simp [Conv.bytesToString]; rfl
      | some ad =>
        exact run_bytesToString (P := P) w ad 0 c [] (by simp [loadCells, loadCellsFrom])
    · obtain ⟨ns, rfl, rfl⟩ := textOf_inv hbs hc.rep hc.size
      refine fin _ (.string ⟨(ns.map fun n => UInt8.ofNat n.toNat).toArray⟩) w G _ σ hv ?_ G.le_refl hS (.v _) hk
      rw [run_convert_bytes_string w s t e _ _ c hd hde hd']
      have hlen : ds.length = (ns.map (Value.int .u8)).length := by rw [hc.len, Nat.mul_one]
      rw [hlen]
      rw [run_bytesToString (P := P) w ad _ c ns (run_loadCells_at hc.cell), fold_push]
      simp
  · rename_i e q e1 e2 e3
    rw [e3] at hev
    have g1 := kd_str e1; have g2 := kd_slice e2
    subst g1; subst g2
    obtain ⟨le, hle, hk8, hsz, hk⟩ := wo_inv h
    obtain ⟨ie, de, ze, fle, hie, hde, hze, hfle, h1e, h2e, rfl⟩ := layOf_inv hle
    have g3 := kd_int (Kd.ints_inv hk8)
    subst g3
    have hr := Lib.run_convert_string_bytes (P := P) w s t e q hd hd' hde
    have hB : Below w.heap.size w (Lib.bytesWorld w e q) := ⟨rfl, rfl, rfl, by rw [Lib.bytesWorld_size]; omega, fun k hk => Lib.bytesWorld_at_old w e q k hk⟩
    have hle' := hS.le_add (q.data.toList.map fun b => Value.int .u8 b.toNat) (Nat.le_refl w.heap.size)
    have hG := hS.upd (w' := Lib.bytesWorld w e q) (G' := G.add w.heap.size (q.data.toList.map fun b => Value.int .u8 b.toNat)) (b := w.heap.size) none (hS.below.trans (hB.mono hS.below.size)) (fun k hk _ => hB.block k hk) hle' (fun k o hk => Gh.add_ne G _ hk o) (fun o v hv => by
      rw [Gh.add_same, List.getElem?_map, Option.map_eq_some_iff] at hv
      obtain ⟨b, hb, rfl⟩ := hv
      have hlt : o < q.size := by
        have := (List.getElem?_eq_some_iff.1 hb).1
        simpa using this
      refine ⟨?_, rfl⟩
      rw [Lib.bytesWorld_cell w e q o hlt, List.getD_eq_getElem?_getD, hb]
      rfl) (fun y hy => by cases hy)
    rw [set_none (hS.fresh (Nat.le_refl _))] at hG
    refine fin _ _ _ _ _ σ hev.v_inv hr hle' hG ?_ hk
    have hbl : (bytesD q).length = q.size := by simp [bytesD]
    have hone : ∀ cs ∈ bytesD q, cs.length = 1 := fun cs hcs => by
      obtain ⟨b, _, rfl⟩ := List.mem_map.1 hcs
      rfl
    have hfl : (bytesD q).flatten = q.data.toList.map fun b => D.v (.int .u8 b.toNat) := by
      unfold bytesD
      generalize q.data.toList = l
      induction l with
      | nil => rfl
      | cons b l ih => rw [List.map_cons, List.flatten_cons, ih]; rfl
    have := Rep.slice (G := G.add w.heap.size (q.data.toList.map fun b => Value.int .u8 b.toNat)) ⟨w.heap.size, 0, none⟩ (grownCap w q.size 0 e) none false 1 (bytesD q) (fun k => .int .u8 (q.data.toList.getD k 0).toNat) (fun _ => rfl) (by rw [hbl]; exact grownCap_ge w q.size 0 e) (by simp) hone (fun k hk => by
      rw [hbl, Nat.mul_one] at hk
      show Gh.add _ _ _ w.heap.size (0 + k) = _
      have hk' : k < q.data.toList.length := by simpa using hk
      rw [Gh.add_same, Nat.zero_add, List.getElem?_map, List.getD_eq_getElem?_getD, List.getElem?_eq_getElem hk']
      rfl) (fun k d hd => by
      rw [hfl, List.getElem?_map, Option.map_eq_some_iff] at hd
      obtain ⟨b, hb, rfl⟩ := hd
      rw [List.getD_eq_getElem?_getD, hb]
      exact .v _) (by simp)
    rwa [hbl] at this
  · exact h.elim
theorem snd_makeMap {t : TypeId} {r : Option Operand} (ho : o.op = .makeMap t r) (h : aop P o.type F σ K E (.makeMap t r)) (hS : Sim base w G σ) (hF : FrRep G a n df F) (hK : Nxt base G a o.dst K next) : o.wp P a w next Q := by
  simp only [aop] at h
  obtain ⟨rfl, hk⟩ := h
  have hB := ((Below.refl w.heap.size w).alloc (Nat.le_refl _) (.map #[] 0))
  refine wp_runI (w' := w.alloc (.map #[] 0)) (.map (some w.heap.size)) (by unfold execOp; simp [ho, Instr.makeMap]) (hK _ _ G _ _ G.le_refl ?_ (.v _) (hk _ (hS.fresh (Nat.le_refl _))))
  exact hS.new hB (.mp []) ⟨fun o => hS.fresh_data (Nat.le_refl _) o, #[], 0, heap_alloc_new w _, rfl, by simp, by simp, by simp⟩
theorem madeCells_flat (z : List Value) (h0 : 0 < z.length) (m : Nat) : (madeCells z.toArray (m * z.length)).toList = (List.replicate m z).flatten := by
  have e : ∀ (k : Nat), k < m * z.length → (List.replicate m z).flatten[k]? = z[k % z.length]? := by
    intro k hk
    have hk2 : k / z.length < m := (Nat.div_lt_iff_lt_mul h0).2 hk
    have hke : k = k / z.length * z.length + k % z.length := by rw [Nat.mul_comm]; exact (Nat.div_add_mod k z.length).symm
    have : ∀ (m i j : Nat), i < m → j < z.length → (List.replicate m z).flatten[i * z.length + j]? = z[j]? := by
      intro m
      induction m with
      | zero => intro i j hi; omega
      | succ m ih =>
        intro i j hi hj
        rw [List.replicate_succ, List.flatten_cons]
        cases i with
        | zero => rw [Nat.zero_mul, Nat.zero_add, List.getElem?_append_left hj]
        | succ i =>
          rw [List.getElem?_append_right (by rw [Nat.add_mul]; omega), show (i + 1) * z.length + j - z.length = i * z.length + j by rw [Nat.add_mul]; omega]
          exact ih i j (by omega) hj
    have := this m (k / z.length) (k % z.length) hk2 (Nat.mod_lt _ h0)
    rwa [← hke] at this
  apply List.ext_getElem?
  intro k
  by_cases hk : k < m * z.length
  · rw [e k hk]
    have hmod : k % z.length < z.length := Nat.mod_lt _ h0
    simp [madeCells, hk, hmod]
  · rw [List.getElem?_eq_none (by simp [madeCells]; omega), List.getElem?_eq_none (by simp; omega)]
theorem snd_makeSlice {t : TypeId} {x y : Operand} (ho : o.op = .makeSlice t x y) (h : aop P o.type F σ K E (.makeSlice t x y)) (hS : Sim base w G σ) (hF : FrRep G a n df F) (hK : Nxt base G a o.dst K next) : o.wp P a w next Q := by
  simp only [aop] at h
  replace h := wo_inv h
  obtain ⟨l, hl, h⟩ := h
  replace h := wo_inv h
  obtain ⟨e, hkd, h⟩ := h
  replace h := wo_inv h
  obtain ⟨le, hle, h⟩ := h
  replace hkd := Kd.sl_inv hkd
  obtain ⟨i, d, z, fl, hi, hd, hz, hfl, h1, h2, rfl⟩ := layOf_inv hl
  obtain ⟨i', d', z', fl', hi', hd', hz', hfl', h1', h2', rfl⟩ := layOf_inv hle
  have hd2 := kd_slice hkd
  subst hd2
  have hx := hF.ev x
  have hy := hF.ev y
  split at h
  · rename_i p q e1 e2
    rw [e1] at hx
    rw [e2] at hy
    obtain ⟨hpos, h0, hpq, hby, hq, hk⟩ := h
    have hpos : 0 < i'.size := hpos
    have hby : q * (i'.bytes : Int) ≤ 140737488355328 := hby
    obtain ⟨pn, rfl⟩ : ∃ pn : Nat, p = pn := ⟨p.toNat, by omega⟩
    obtain ⟨qn, rfl⟩ : ∃ qn : Nat, q = qn := ⟨q.toNat, by omega⟩
    simp only [Int.toNat_natCast] at hk
    have hr := run_make (P := P) w t e i' z' hd hi' hz' .i64 .i64 pn qn h0 hpq (by rw [Int.mul_comm]; omega) (by omega)
    simp only [Int.toNat_natCast] at hr
    have hzl : z'.cells = z'.cells.toList.toArray := by simp
    have hml := madeCells_flat z'.cells.toList (by rw [h2']; exact hpos) qn
    rw [h2', ← hzl] at hml
    have hB := ((Below.refl w.heap.size w).alloc (Nat.le_refl _) (.cells (madeCells z'.cells (qn * i'.size)) e))
    have hrl : ∀ k : Nat, RepL G (List.replicate k z'.cells.toList).flatten (List.replicate k (z'.cells.toList.map D.v)).flatten := by
      intro k
      induction k with
      | zero => exact RepL.nil G
      | succ k ih =>
        rw [List.replicate_succ, List.flatten_cons, List.replicate_succ, List.flatten_cons]
        exact (RepL.mapV z'.cells.toList).append ih
    refine wp_runI _ (by unfold execOp; simp only [ho, hx.v_inv, hy.v_inv, Sem.run_bind, hr]; rfl) (hK _ _ G _ _ G.le_refl ?_ (.arr _ 0 _ i'.size qn 0 pn (.inr (by simp)) (fun _ => ⟨rfl, rfl⟩) (by omega)) (hk _ (hS.fresh (Nat.le_refl _))))
    have hsplit : (List.replicate qn z'.cells.toList).flatten = (List.replicate pn z'.cells.toList).flatten ++ (List.replicate (qn - pn) z'.cells.toList).flatten := by
      rw [← List.flatten_append, List.replicate_append_replicate, show pn + (qn - pn) = qn by omega]
    refine hS.new hB (.arr e i'.size qn _) ⟨fun o => hS.fresh_data (Nat.le_refl _) o, by unfold maxLen; omega, by rw [List.length_replicate]; omega, fun cs hcs => ?_, (List.replicate pn z'.cells.toList).flatten, (List.replicate (qn - pn) z'.cells.toList).flatten, ?_, ?_, hrl pn, fun u hu => ?_⟩
    · rw [(List.mem_replicate.1 hcs).2, List.length_map, h2']
    · rw [← hsplit, ← hml, Array.toArray_toList]
      exact heap_alloc_new w _
    · rw [← hsplit, ← hml, Array.length_toList, size_madeCells]
    · obtain ⟨c, hc, hu⟩ := List.mem_flatten.1 hu
      rw [(List.mem_replicate.1 hc).2] at hu
      exact h1' u hu
  · exact h.elim
theorem find_spec {s : ByteArray} : ∀ (l : List MapEntry) (es : List (Value × D)) (i : Nat), l.length = es.length → (∀ (k : Nat) (e : MapEntry) (y : Value × D), l[k]? = some e → es[k]? = some y → e.key = y.1 ∧ Rep G e.val y.2) → mkeys es →
    (mfind es s = none ∧ Instr.findNow .string (.string s) l i = some none ∧ (∀ e ∈ l, e.key ≠ .string s) ∧ ∀ d, mput es s d = es ++ [(.string s, d)]) ∨
    ∃ j e d, mfind es s = some d ∧ Instr.findNow .string (.string s) l i = some (some (i + j, e.val)) ∧ l[j]? = some e ∧ e.key = .string s ∧ Rep G e.val d ∧ (∀ (j' : Nat) (e' : MapEntry), j' < j → l[j']? = some e' → e'.key ≠ .string s) ∧ ∀ d', mput es s d' = es.set j (.string s, d')
  | [], [], i, _, _, _ => .inl ⟨rfl, rfl, by simp, fun d => rfl⟩
  | [], _ :: _, _, h, _, _ => by simp at h
  | _ :: _, [], _, h, _, _ => by simp at h
  | e :: l, y :: es, i, hl, hr, hk => by
    obtain ⟨k, hy⟩ := hk y (by simp)
    obtain ⟨v, d⟩ := y
    simp only at hy
    subst hy
    obtain ⟨h1, h2⟩ := hr 0 e _ rfl rfl
    simp only at h1 h2
    by_cases hs : s = k
    · subst hs
      have hnow : Instr.sameNow .string (.string s) e.key = some true := by rw [h1]; simp [Instr.sameNow, MapKept.bytes_beq]
      exact .inr ⟨0, e, d, by simp [mfind], by simp [Instr.findNow, hnow], rfl, h1, h2, fun j' e' hj => by omega, fun d' => by simp [mput]⟩
    · have hnow : Instr.sameNow .string (.string s) e.key = some false := by
        rw [h1]
        simp only [Instr.sameNow, Option.some.injEq]
        cases hb : (s == k) with
        | false => rfl
        | true => exact absurd ((MapKept.bytes_beq s k).1 hb) hs
      have hne : e.key ≠ .string s := by rw [h1]; intro h; injection h with h; exact hs h.symm
      rcases find_spec (s := s) l es (i + 1) (by simpa using hl) (fun k e y h1 h2 => hr (k + 1) e y (by simpa using h1) (by simpa using h2)) (fun y hy => hk y (by simp [hy])) with ⟨g1, g2, g3, g4⟩ | ⟨j, e', d', g1, g2, g3, g4, g5, g6, g7⟩
      · refine .inl ⟨by simp [mfind, hs, g1], by simp [Instr.findNow, hnow, g2], fun x hx => ?_, fun d' => by simp [mput, hs, g4]⟩
        rcases List.mem_cons.1 hx with rfl | hx
        · exact hne
        · exact g3 x hx
      · refine .inr ⟨j + 1, e', d', by simp [mfind, hs, g1], by simp only [Instr.findNow, hnow, g2]; congr 3; omega, by simpa using g3, g4, g5, fun j' e2 hj h => ?_, fun d2 => by simp [mput, hs, g7]⟩
        cases j' with
        | zero => simp at h; subst h; exact hne
        | succ j' => exact g6 j' e2 (by omega) (by simpa using h)
theorem map_of {t : TypeId} {ke : TypeId × TypeId} (h : wo (layOf P t) fun l => l.kd.isMap = some ke) : P.underlying t = some (.map ke.1 ke.2) := by
  obtain ⟨l, hl, hkd⟩ := wo_inv h
  obtain ⟨i, d, z, fl, hi, hd, hz, hfl, h1', h2', rfl⟩ := layOf_inv hl
  rw [kd_map (Kd.map_inv hkd)] at hd
  exact hd
theorem str_kd {t : TypeId} {l : LyI} (hl : layOf P t = some l) (h : l.kd.isStr = true) : P.underlying t = some .string := str_of (by rw [hl]; exact h)
theorem setObj_below (w : World) (b : Nat) (ob : Obj) : Below b w { w with heap := w.heap.setIfInBounds b ob } := ⟨rfl, rfl, rfl, by simp, fun k hk => by simp [Array.getElem?_setIfInBounds]; omega⟩
theorem Sim.setMap (h : Sim base w G σ) {b : Nat} {en en' : Array MapEntry} {clock clock' : Nat} {x : Own} (h0 : base.heap.size ≤ b) (hn : ∀ o, G b o = none) (hb : w.heap[b]? = some (.map en clock)) (hx : OwnAt { w with heap := w.heap.setIfInBounds b (.map en' clock') } G b x) :
    Sim base { w with heap := w.heap.setIfInBounds b (.map en' clock') } G (σ.set b (some x)) := by
  refine h.upd _ (h.own_below h0 (setObj_below w b _)) (fun k _ hk => (MapKept.heap_set hb).2 k hk) G.le_refl (fun _ _ _ => rfl) (fun o v hv => by rw [hn o] at hv; cases hv) (fun y hy => ?_)
  injection hy with hy
  subst hy
  exact ⟨h0, hx⟩
theorem snd_lookup {t : TypeId} {x ix : Operand} {ok : Bool} (ho : o.op = .lookup t x ix ok) (h : aop P o.type F σ K E (.lookup t x ix ok)) (hS : Sim base w G σ) (hF : FrRep G a n df F) (hK : Nxt base G a o.dst K next) : o.wp P a w next Q := by
  simp only [aop] at h
  replace h := wo_inv h
  obtain ⟨l, hl, h⟩ := h
  replace h := wo_inv h
  obtain ⟨ke, hke, h⟩ := h
  replace h := wo_inv h
  obtain ⟨lk, hlk, h⟩ := h
  replace h := wo_inv h
  obtain ⟨le, hle, hks, h⟩ := h
  have hm := map_of (P := P) (t := t) (ke := ke) (by rw [hl]; exact hke)
  have hd := str_kd hlk hks
  have hx := hF.ev x
  have hix := hF.ev ix
  split at h
  · rename_i b s e1 e2
    rw [e1] at hx
    rw [e2] at hix
    split at h
    · rename_i es hown
      obtain ⟨hmk, hk⟩ := h
      obtain ⟨_, hn, en, clock, hb, hsz, hrep, honce, hborn⟩ := hS.own b _ hown
      have hck : ∀ em, (Instr.checkKey em 10000 ke.1 (.string s)).run P w = .ok () w := fun em => MapKept.run_checkKey (k := .string s) hd (by simp [MapKept.IsKey]) em 9999
      have hobj := MapKept.run_getObj_map (P := P) hb
      rcases find_spec en.toList es 0 (by simpa using hsz) (by simpa using hrep) hmk (s := s) with ⟨g1, g2, _⟩ | ⟨j, e, d, g1, g2, g3, g4, g5, _⟩
      · have hf := MapKept.run_findKey (P := P) (w := w) hd g2
        obtain ⟨z1, z2⟩ := azero_rep (P := P) (w := w) (G := G) hle
        rw [g1] at hk
        refine snd_val (v := if ok then .tuple #[le.zv, .bool false] else le.zv) hS ?_ ?_ hk hK
        · unfold execOp
          simp [ho, hx.v_inv, hix.v_inv, Instr.lookup, run_underlying hm, hobj, hck, hf, z1]
        · cases ok
          · exact z2
          · have := (RepL.nil G).cons (Rep.v (G := G) (.bool false)) |>.cons z2
            exact .tup _ _ this.len this.rep
      · have hf := MapKept.run_findKey (P := P) (w := w) hd g2
        rw [g1] at hk
        refine snd_val (v := if ok then .tuple #[e.val, .bool true] else e.val) hS ?_ ?_ hk hK
        · unfold execOp
          simp [ho, hx.v_inv, hix.v_inv, Instr.lookup, run_underlying hm, hobj, hck, hf]
        · cases ok
          · exact g5
          · have := (RepL.nil G).cons (Rep.v (G := G) (.bool true)) |>.cons g5
            exact .tup _ _ this.len this.rep
    · exact h.elim
  · exact h.elim
theorem mapAt_push {en : Array MapEntry} {clock : Nat} {es : List (Value × D)} (h : MapAt G en clock es) (s : ByteArray) (v : Value) (d : D) (hr : Rep G v d) : MapAt G (en.push { key := .string s, val := v, born := clock }) (clock + 1) (es ++ [(.string s, d)]) := by
  refine ⟨by simp [h.size], fun k e y h1 h2 => ?_, fun i j e e' h1 h2 hb => ?_, fun i e h1 => ?_⟩
  · rw [Array.getElem?_push] at h1
    split at h1
    · rename_i hk
      injection h1 with h1
      subst h1
      rw [List.getElem?_append_right (by rw [hk, h.size]; exact Nat.le_refl _), hk, h.size, Nat.sub_self] at h2
      simp at h2
      subst h2
      exact ⟨rfl, hr⟩
    · have hlt : k < es.length := by rw [← h.size]; exact (Array.getElem?_eq_some_iff.1 h1).1
      rw [List.getElem?_append_left hlt] at h2
      exact h.rep k e y h1 h2
  · rw [Array.getElem?_push] at h1 h2
    split at h1
    · rename_i hi
      split at h2
      · rename_i hj; rw [hi, hj]
      · injection h1 with h1
        subst h1
        have := h.born j e' h2
        simp at hb
        omega
    · split at h2
      · injection h2 with h2
        subst h2
        have := h.born i e h1
        simp at hb
        omega
      · exact h.once i j e e' h1 h2 hb
  · rw [Array.getElem?_push] at h1
    split at h1
    · injection h1 with h1
      subst h1
      show clock < clock + 1
      omega
    · have := h.born i e h1; omega
theorem mapAt_set {en : Array MapEntry} {clock : Nat} {es : List (Value × D)} (h : MapAt G en clock es) {j : Nat} {e0 : MapEntry} (h0 : en[j]? = some e0) (f : MapEntry → MapEntry) (s : ByteArray) (d : D) (hk : (f e0).key = .string s) (hb0 : (f e0).born = e0.born) (hr : Rep G (f e0).val d) : MapAt G (en.modify j f) clock (es.set j (.string s, d)) := by
  have hj : j < es.length := by rw [← h.size]; exact (Array.getElem?_eq_some_iff.1 h0).1
  have key : ∀ (i : Nat) (e : MapEntry), (en.modify j f)[i]? = some e → ∃ e', en[i]? = some e' ∧ e.born = e'.born := by
    intro i e h1
    rw [Array.getElem?_modify] at h1
    split at h1
    · rename_i hij
      subst hij
      rw [h0] at h1
      simp at h1
      subst h1
      exact ⟨e0, h0, hb0⟩
    · exact ⟨e, h1, rfl⟩
  refine ⟨by simp [h.size], fun k e y h1 h2 => ?_, fun i i' e e' h1 h2 hb => ?_, fun i e h1 => ?_⟩
  · rw [Array.getElem?_modify] at h1
    split at h1
    · rename_i hij
      subst hij
      rw [h0] at h1
      simp at h1
      subst h1
      rw [List.getElem?_set_self hj] at h2
      injection h2 with h2
      subst h2
      exact ⟨hk, hr⟩
    · rename_i hij
      rw [List.getElem?_set_ne hij] at h2
      exact h.rep k e y h1 h2
  · obtain ⟨x, g1, g2⟩ := key i e h1
    obtain ⟨x', g3, g4⟩ := key i' e' h2
    exact h.once i i' x x' g1 g3 (by rw [← g2, ← g4]; exact hb)
  · obtain ⟨x, g1, g2⟩ := key i e h1
    rw [g2]
    exact h.born i x g1
theorem snd_mapUpdate {t : TypeId} {x k y : Operand} (ho : o.op = .mapUpdate t x k y) (h : aop P o.type F σ K E (.mapUpdate t x k y)) (hS : Sim base w G σ) (hF : FrRep G a n df F) (hK : Nxt base G a o.dst K next) : o.wp P a w next Q := by
  simp only [aop] at h
  replace h := wo_inv h
  obtain ⟨l, hl, h⟩ := h
  replace h := wo_inv h
  obtain ⟨ke, hke, h⟩ := h
  replace h := wo_inv h
  obtain ⟨lk, hlk, hks, h⟩ := h
  have hm := map_of (P := P) (t := t) (ke := ke) (by rw [hl]; exact hke)
  have hd := str_kd hlk hks
  have hx := hF.ev x
  have hix := hF.ev k
  have hy := hF.ev y
  split at h
  · rename_i b s e1 e2
    rw [e1] at hx
    rw [e2] at hix
    split at h
    · rename_i es hown
      obtain ⟨hmk, hk⟩ := h
      obtain ⟨hbase, hn, en, clock, hb, hM⟩ := hS.own b _ hown
      have hck : (Instr.checkKey false 10000 ke.1 (.string s)).run P w = .ok () w := MapKept.run_checkKey (k := .string s) hd (by simp [MapKept.IsKey]) false 9999
      have hobj := MapKept.run_getObj_map (P := P) hb
      rcases find_spec en.toList es 0 (by simpa using hM.size) (by simpa using hM.rep) hmk (s := s) with ⟨g1, g2, g3, g4⟩ | ⟨j, e, d, g1, g2, g3, g4, g5, g6, g7⟩
      · have hf := MapKept.run_findKey (P := P) (w := w) hd g2
        rw [g4] at hk
        refine wp_skipI (w' := { w with heap := w.heap.setIfInBounds b (.map (en.push { key := .string s, val := a.eval y, born := clock }) (clock + 1)) }) ?_ (hK _ _ G _ _ G.le_refl ?_ (.any _) hk)
        · unfold execOp
          simp [ho, hx.v_inv, hix.v_inv, Instr.mapUpdate, run_underlying hm, hobj, hck, hf, MapKept.run_setObj_map _ hb]
        · exact hS.setMap hbase hn hb ⟨hn, _, _, (MapKept.heap_set hb).1, mapAt_push hM s _ _ hy⟩
      · have hf := MapKept.run_findKey (P := P) (w := w) hd g2
        have hj : en[j]? = some e := by simpa using g3
        rw [g7] at hk
        refine wp_skipI (w' := { w with heap := w.heap.setIfInBounds b (.map (en.modify j fun e => { e with key := .string s, val := a.eval y }) clock) }) ?_ (hK _ _ G _ _ G.le_refl ?_ (.any _) hk)
        · unfold execOp
          simp [ho, hx.v_inv, hix.v_inv, Instr.mapUpdate, run_underlying hm, hobj, hck, hf, hj, g4, MapKept.run_keyThatStays (d := .string) (k := .string s) (by simp [MapKept.IsKey]), MapKept.run_setObj_map _ hb]
        · exact hS.setMap hbase hn hb ⟨hn, _, _, (MapKept.heap_set hb).1, mapAt_set hM hj _ s _ rfl rfl hy⟩
    · exact h.elim
  · exact h.elim
theorem snd_mapEntry {t : TypeId} {x k : Operand} (ho : o.op = .mapEntry t x k) (h : aop P o.type F σ K E (.mapEntry t x k)) (hS : Sim base w G σ) (hF : FrRep G a n df F) (hK : Nxt base G a o.dst K next) : o.wp P a w next Q := by
  simp only [aop] at h
  replace h := wo_inv h
  obtain ⟨l, hl, h⟩ := h
  replace h := wo_inv h
  obtain ⟨ke, hke, h⟩ := h
  replace h := wo_inv h
  obtain ⟨lk, hlk, h⟩ := h
  replace h := wo_inv h
  obtain ⟨le, hle, hks, h⟩ := h
  have hm := map_of (P := P) (t := t) (ke := ke) (by rw [hl]; exact hke)
  have hd := str_kd hlk hks
  have hx := hF.ev x
  have hix := hF.ev k
  split at h
  · rename_i b s e1 e2
    rw [e1] at hx
    rw [e2] at hix
    split at h
    · rename_i es hown
      obtain ⟨hmk, hk⟩ := h
      obtain ⟨hbase, hn, en, clock, hb, hM⟩ := hS.own b _ hown
      have hck : (Instr.checkKey false 10000 ke.1 (.string s)).run P w = .ok () w := MapKept.run_checkKey (k := .string s) hd (by simp [MapKept.IsKey]) false 9999
      have hobj := MapKept.run_getObj_map (P := P) hb
      rcases find_spec en.toList es 0 (by simpa using hM.size) (by simpa using hM.rep) hmk (s := s) with ⟨g1, g2, g3, g4⟩ | ⟨j, e, d, g1, g2, g3, g4, g5, g6, g7⟩
      · have hf := MapKept.run_findKey (P := P) (w := w) hd g2
        obtain ⟨z1, z2⟩ := azero_rep (P := P) (w := w) (G := G) hle
        rw [g1, Option.getD_none, g4] at hk
        have hr2 := (RepL.nil G).cons (Rep.v (G := G) (.int .i64 clock)) |>.cons z2
        refine wp_runI (w' := { w with heap := w.heap.setIfInBounds b (.map (en.push { key := .string s, val := le.zv, born := clock }) (clock + 1)) }) (.tuple #[le.zv, .int .i64 clock]) ?_ (hK _ _ G _ _ G.le_refl ?_ (.tup _ _ hr2.len hr2.rep) (hk clock))
        · unfold execOp
          simp [ho, hx.v_inv, hix.v_inv, Instr.mapEntry, run_underlying hm, hobj, hck, hf, z1, MapKept.run_setObj_map _ hb, goInt]
        · refine hS.setMap hbase hn hb ⟨hn, _, _, (MapKept.heap_set hb).1, mapAt_push hM s _ _ z2, en.size, _, Array.getElem?_push_size, rfl, rfl, fun j' e' hj h' => ?_⟩
          rw [Array.getElem?_push, if_neg (by omega)] at h'
          exact g3 e' (Array.mem_toList_iff.2 (Array.mem_of_getElem? h'))
      · have hf := MapKept.run_findKey (P := P) (w := w) hd g2
        have hj : en[j]? = some e := by simpa using g3
        rw [g1, Option.getD_some, g7] at hk
        have hr2 := (RepL.nil G).cons (Rep.v (G := G) (.int .i64 e.born)) |>.cons g5
        have hM' := mapAt_set hM hj (fun e => { e with key := .string s }) s d rfl rfl g5
        refine wp_runI (w' := { w with heap := w.heap.setIfInBounds b (.map (en.modify j fun e => { e with key := .string s }) clock) }) (.tuple #[e.val, .int .i64 e.born]) ?_ (hK _ _ G _ _ G.le_refl ?_ (.tup _ _ hr2.len hr2.rep) (hk e.born))
        · unfold execOp
          simp [ho, hx.v_inv, hix.v_inv, Instr.mapEntry, run_underlying hm, hobj, hck, hf, hj, g4, MapKept.run_keyThatStays (d := .string) (k := .string s) (by simp [MapKept.IsKey]), MapKept.run_setObj_map _ hb, goInt]
        · refine hS.setMap hbase hn hb ⟨hn, _, _, (MapKept.heap_set hb).1, hM', j, { e with key := .string s }, by rw [Array.getElem?_modify, if_pos rfl, hj]; rfl, rfl, rfl, fun j' e' hjj h' => ?_⟩
          rw [Array.getElem?_modify, if_neg (by omega)] at h'
          exact g6 j' e' hjj (by simpa using h')
    · exact h.elim
  · exact h.elim
theorem snd_entryStore {t : TypeId} {x st y : Operand} (ho : o.op = .entryStore t x st y) (h : aop P o.type F σ K E (.entryStore t x st y)) (hS : Sim base w G σ) (hF : FrRep G a n df F) (hK : Nxt base G a o.dst K next) : o.wp P a w next Q := by
  simp only [aop] at h
  have hx := hF.ev x
  have hst := hF.ev st
  have hy := hF.ev y
  split at h
  · rename_i b q e1 e2
    rw [e1] at hx
    rw [e2] at hst
    split at h
    · rename_i es s stamp hown
      obtain ⟨rfl, hmk, hk⟩ := h
      obtain ⟨hbase, hn, en, clock, hb, hM, i, e, hi, hbn, hkey, hahead⟩ := hS.own b _ hown
      have hobj := MapKept.run_getObj_map (P := P) hb
      have hput : ∀ d, mput es s d = es.set i (.string s, d) := by
        rcases find_spec en.toList es 0 (by simpa using hM.size) (by simpa using hM.rep) hmk (s := s) with ⟨g1, g2, g3, g4⟩ | ⟨j, e', d, g1, g2, g3, g4, g5, g6, g7⟩
        · exact absurd hkey (g3 e (Array.mem_toList_iff.2 (Array.mem_of_getElem? hi)))
        · have : j = i := by
            rcases Nat.lt_trichotomy i j with h | h | h
            · exact absurd hkey (g6 i e h (by simpa using hi))
            · exact h.symm
            · exact absurd g4 (hahead j e' h (by simpa using g3))
          subst this
          exact g7
      have hfi : en.findIdx? (fun e => (e.born : Int) == q) = some i := by
        rw [Array.findIdx?_eq_some_iff_getElem]
        obtain ⟨hlt, he⟩ := Array.getElem?_eq_some_iff.1 hi
        refine ⟨hlt, by rw [he]; simpa using hbn, fun j hj => ?_⟩
        intro hbj
        have hjl : j < en.size := by omega
        have hbj' : (en[j].born : Int) = q := by simpa using hbj
        have := hM.once j i en[j] e (Array.getElem?_eq_getElem hjl) hi (by omega)
        omega
      rw [hput] at hk
      refine wp_skipI (w' := { w with heap := w.heap.setIfInBounds b (.map (en.modify i fun e => { e with val := a.eval y }) clock) }) ?_ (hK _ _ G _ _ G.le_refl ?_ (.any _) hk)
      · unfold execOp
        simp [ho, hx.v_inv, hst.v_inv, Instr.entryStore, hobj, asInt, asIntOf, hfi, MapKept.run_setObj_map _ hb]
      · exact hS.setMap hbase hn hb ⟨hn, _, _, (MapKept.heap_set hb).1, mapAt_set hM hi _ s _ hkey rfl hy⟩
    · exact h.elim
  · exact h.elim
theorem snd_typeAssert {x : Operand} {s t : TypeId} {ok : Bool} (ho : o.op = .typeAssert x s t ok) (h : aop P o.type F σ K E (.typeAssert x s t ok)) (hS : Sim base w G σ) (hF : FrRep G a n df F) (hK : Nxt base G a o.dst K next) : o.wp P a w next Q := by
  simp only [aop] at h
  replace h := wo_inv h
  obtain ⟨l, hl, hkd, h⟩ := h
  obtain ⟨z1, z2⟩ := azero_rep (P := P) (w := w) (G := G) hl
  obtain ⟨i, d, z, fl, hi, hd, hz, hfl, h1, h2, rfl⟩ := layOf_inv hl
  have hnot : ∀ ms, d ≠ .interface ms := by
    rintro ms rfl
    simp [kdOf, Kd.ifc] at hkd
  have hx := hF.ev x
  have hb : Rep G (.tuple #[z, .bool false]) (.tup [azero ⟨aggOf d, i.size, i.bytes, z.cells.toList, fl, kdOf d, z⟩, .b false]) := by
    have := (RepL.nil G).cons (Rep.v (G := G) (.bool false)) |>.cons z2
    exact .tup _ _ this.len this.rep
  cases ok with
  | true =>
    split at h
    · rename_i u dd e1 _
      rw [e1] at hx
      generalize hy : a.eval x = y at hx
      cases hx with
      | iface _ v _ hr =>
        by_cases hut : u = t
        · subst hut
          rw [if_pos rfl] at h
          have hg := (RepL.nil G).cons (Rep.v (G := G) (.bool true)) |>.cons hr
          refine snd_val (v := .tuple #[v, .bool true]) hS ?_ (.tup _ _ hg.len hg.rep) h hK
          unfold execOp
          cases d <;> first | exact absurd rfl (hnot _) | simp [ho, hy, Instr.typeAssert, run_underlying hd]
        · rw [if_neg hut] at h
          refine snd_val (v := .tuple #[z, .bool false]) hS ?_ hb h hK
          unfold execOp
          have z1 : (zeroValue t).run P w = .ok z w := z1
          cases d <;> first | exact absurd rfl (hnot _) | simp [ho, hy, Instr.typeAssert, run_underlying hd, hut, z1]
    · rename_i e1; cases e1
    · rename_i e1 _
      rw [e1] at hx
      refine snd_val (v := .tuple #[z, .bool false]) hS ?_ hb h hK
      unfold execOp
      have z1 : (zeroValue t).run P w = .ok z w := z1
      cases d <;> first | exact absurd rfl (hnot _) | simp [ho, hx.v_inv, Instr.typeAssert, run_underlying hd, z1]
    · exact h.elim
  | false =>
    split at h
    · rename_i e1; cases e1
    · rename_i u dd e1 _
      obtain ⟨rfl, hk⟩ := h
      rw [e1] at hx
      generalize hy : a.eval x = y at hx
      cases hx with
      | iface _ v _ hr =>
        refine snd_val (v := v) hS ?_ hr hk hK
        unfold execOp
        cases d <;> first | exact absurd rfl (hnot _) | simp [ho, hy, Instr.typeAssert, run_underlying hd]
    · rename_i e1; cases e1
    · exact h.elim
end
end Go.Proofs.YtmpbofmhjjgccaaDoor
