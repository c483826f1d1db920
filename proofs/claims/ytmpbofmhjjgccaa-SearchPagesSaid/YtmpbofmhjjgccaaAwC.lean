/-
  Operations as they are reasoned about: that is what they do.
-/
import Derived.Test.YtmpbofmhjjgccaaAwB
namespace Go.Proofs.Ytmpbofmhjjgccaa
open Go.RowKit
set_option linter.unusedVariables false
set_option linter.unusedSimpArgs false

section
variable {P : Program} {G : Gh} {x : Value} {d : D}
theorem Rep.v_inv {y : Value} (h : Rep G x (.v y)) : x = y := by cases h; rfl
theorem Rep.int_inv {k : IntKind} {n : Int} (h : Rep G x (.v (.int k n))) : x = .int k n := h.v_inv
theorem flat_get {sz : Nat} : ∀ (ds : List (List D)) (i k : Nat) (cs : List D), (∀ c ∈ ds, c.length = sz) → ds[i]? = some cs → k < sz → ds.flatten[i * sz + k]? = cs[k]?
  | [], i, k, cs, _, h, _ => by simp at h
  | c :: ds, 0, k, cs, hs, h, hk => by
    simp at h
    subst h
    rw [Nat.zero_mul, Nat.zero_add, List.flatten_cons, List.getElem?_append_left (by rw [hs c (by simp)]; exact hk)]
  | c :: ds, i + 1, k, cs, hs, h, hk => by
    have hc : c.length = sz := hs c (by simp)
    rw [List.flatten_cons, List.getElem?_append_right (by rw [hc, Nat.add_mul]; omega), hc, show (i + 1) * sz + k - sz = i * sz + k by rw [Nat.add_mul]; omega]
    exact flat_get ds i k cs (fun c hc => hs c (by simp [hc])) (by simpa using h) hk
theorem flat_len {sz : Nat} : ∀ (ds : List (List D)), (∀ c ∈ ds, c.length = sz) → ds.flatten.length = ds.length * sz
  | [], _ => by simp
  | c :: ds, hs => by rw [List.flatten_cons, List.length_append, flat_len ds (fun c hc => hs c (by simp [hc])), hs c (by simp), List.length_cons, Nat.add_mul]; omega
/-- A list that isn't empty is none that is nil. -/
theorem Rep.list_inv {nl : Bool} {tip : Option (Nat × Nat)} {full : Bool} {sz : Nat} {ds : List (List D)} (h : Rep G x d) (hd : d.list = some (nl, tip, full, sz, ds)) :
    (nl = true ∧ tip = none ∧ x = .slice none 0 0 ∧ ds = []) ∨ Rep G x (.slice tip full sz ds) := by
  cases h <;> simp only [D.list, Option.some.injEq, Prod.mk.injEq, reduceCtorEq] at hd
  case slice a c _ _ _ _ vals hs hc hfull hsz hcell hrep htip =>
    obtain ⟨rfl, rfl, rfl, rfl, rfl⟩ := hd
    exact .inr (.slice a c _ _ _ _ vals hs hc hfull hsz hcell hrep htip)
  case lst0 =>
    obtain ⟨rfl, rfl, rfl, rfl, rfl⟩ := hd
    exact .inl ⟨rfl, rfl, rfl, rfl⟩
  case lst h =>
    obtain ⟨rfl, rfl, rfl, rfl, rfl⟩ := hd
    exact .inr h
theorem Rep.nl_inv {tip : Option (Nat × Nat)} {full : Bool} {sz : Nat} {ds : List (List D)} (h : Rep G x d) (hd : d.list = some (false, tip, full, sz, ds)) : Rep G x (.slice tip full sz ds) := by
  rcases h.list_inv hd with ⟨h1, _⟩ | h
  · cases h1
  · exact h
/-- What is laid, cell by cell. -/
theorem D.cells_rep {cs : List D} (h : Rep G x d) (hc : d.cells = some cs) : RepL G x.cells.toList cs ∧ ∀ y ∈ x.cells.toList, y.oneCell' = true := by
  have one : ∀ (x : Value) (d : D), Rep G x d → x.cells = #[x] → x.oneCell' = true → RepL G x.cells.toList [d] ∧ ∀ y ∈ x.cells.toList, y.oneCell' = true := by
    intro x d h h1 h2
    rw [h1]
    exact ⟨(RepL.nil G).cons h, by simp [h2]⟩
  cases h with
  | any x => simp [D.cells] at hc
  | v y =>
    cases x <;> first
      | (simp only [D.cells, Option.some.injEq] at hc; subst hc; exact one _ _ (.v _) rfl rfl)
      | (simp [D.cells] at hc; done)
      | skip
    rename_i xs
    simp only [D.cells] at hc
    split at hc
    · rename_i hall
      injection hc with hc
      subst hc
      refine ⟨⟨by simp [Value.cells], fun k u e h1 h2 => ?_⟩, fun y hy => List.all_eq_true.1 hall y (by simpa [Value.cells] using hy)⟩
      rw [List.getElem?_map] at h2
      simp only [Value.cells] at h1
      rw [h1] at h2
      simp at h2
      subst h2
      exact .v u
    · cases hc
  | slice a c tip full sz ds vals hs hc' hfull hsz hcell hrep htip =>
    simp only [D.cells, Option.some.injEq] at hc; subst hc; exact one _ _ (.slice a c tip full sz ds vals hs hc' hfull hsz hcell hrep htip) rfl rfl
  | lst0 full sz => simp only [D.cells, Option.some.injEq] at hc; subst hc; exact one _ _ (.lst0 full sz) rfl rfl
  | lst x full sz ds h =>
    simp only [D.cells, Option.some.injEq] at hc; subst hc
    cases h with
    | slice a c tip full sz ds vals hs hc' hfull hsz hcell hrep htip => exact one _ _ (.lst _ _ _ _ (.slice a c none full sz ds vals hs hc' hfull hsz hcell hrep htip)) rfl rfl
  | ptr a cs' vals hs hcell hrep => simp only [D.cells, Option.some.injEq] at hc; subst hc; exact one _ _ (.ptr a cs' vals hs hcell hrep) rfl rfl
  | agg vs cs' hl h1 hrep =>
    simp only [D.cells, Option.some.injEq] at hc; subst hc
    exact ⟨⟨by simpa [Value.cells] using hl, by simpa [Value.cells] using hrep⟩, by simpa [Value.cells] using h1⟩
  | tup vs cs' hl hrep => simp [D.cells] at hc
  | func f vs cs' hl hrep => simp only [D.cells, Option.some.injEq] at hc; subst hc; exact one _ _ (.func f vs cs' hl hrep) rfl rfl
  | iface t y d' hrep => simp only [D.cells, Option.some.injEq] at hc; subst hc; exact one _ _ (.iface t y d' hrep) rfl rfl
theorem RepL.mapV (xs : List Value) : RepL G xs (xs.map .v) := by
  refine ⟨by simp, fun k u e h1 h2 => ?_⟩
  rw [List.getElem?_map, h1] at h2
  simp at h2
  subst h2
  exact .v u
theorem RepL.dput {vs xs : List Value} {cs ds : List D} (h : RepL G vs cs) (hx : RepL G xs ds) (o : Nat) : RepL G (vs.take o ++ xs ++ vs.drop (o + xs.length)) (dput cs o ds) := by
  refine ⟨?_, fun k u e h1 h2 => ?_⟩
  · simp [Proofs.Ytmpbofmhjjgccaa.dput, h.len, hx.len]
  · unfold Proofs.Ytmpbofmhjjgccaa.dput at h2
    have hl1 : (vs.take o).length = (cs.take o).length := by simp [h.len]
    by_cases h3 : k < (vs.take o ++ xs).length
    · rw [List.getElem?_append_left h3] at h1
      rw [List.getElem?_append_left (by simp only [List.length_append] at h3 ⊢; rw [← hx.len, ← hl1]; exact h3)] at h2
      by_cases h4 : k < (vs.take o).length
      · rw [List.getElem?_append_left h4, List.getElem?_take] at h1
        rw [List.getElem?_append_left (by rw [← hl1]; exact h4), List.getElem?_take] at h2
        have h4' : k < o := by simp at h4; omega
        rw [if_pos h4'] at h1 h2
        exact h.rep k u e h1 h2
      · rw [List.getElem?_append_right (by omega)] at h1
        rw [List.getElem?_append_right (by omega), ← hl1] at h2
        exact hx.rep _ u e h1 h2
    · rw [List.getElem?_append_right (by omega)] at h1
      have hl2 : (vs.take o ++ xs).length = (cs.take o ++ ds).length := by simp only [List.length_append]; rw [hl1, hx.len]
      rw [List.getElem?_append_right (by rw [← hl2]; omega), ← hl2] at h2
      rw [List.getElem?_drop] at h1 h2
      rw [← hx.len] at h2
      exact h.rep _ u e h1 h2
theorem one_dput {vs xs : List Value} (h : ∀ y ∈ vs, y.oneCell' = true) (hx : ∀ y ∈ xs, y.oneCell' = true) (o : Nat) : ∀ y ∈ vs.take o ++ xs ++ vs.drop (o + xs.length), y.oneCell' = true := by
  intro y hy
  simp only [List.mem_append] at hy
  rcases hy with (hy | hy) | hy
  · exact h y (List.mem_of_mem_take hy)
  · exact hx y hy
  · exact h y (List.mem_of_mem_drop hy)
theorem run_fieldAt {s : TypeId} {fs : Array Field} {fd : Field} {i : TypeInfo} {f b o : Nat} {w : World} (hu : P.underlying s = some (.struct fs)) (hf : fs[f]? = some fd) (hi : P.info? fd.type = some i) (hz : i.size ≠ 0) :
    (Instr.fieldAt s (.pointer (some ⟨b, o, none⟩)) f).run P w = .ok (.pointer (some ⟨b, o + fd.offset, none⟩)) w := by
  simp [Instr.fieldAt, run_underlying hu, hf, Instr.sureAddr, fieldPlace, sizeOf, typeInfo, hi, hz, addr_add]
theorem fieldsOf_get {fs : Array Field} {fl : List (Nat × Nat × Bool)} {f off size : Nat} {g : Bool} (h : fieldsOf P (.struct fs) = some fl) (hf : fl[f]? = some (off, size, g)) :
    ∃ fd i d, fs[f]? = some fd ∧ P.info? fd.type = some i ∧ P.underlying fd.type = some d ∧ off = fd.offset ∧ size = i.size ∧ g = aggOf d := by
  have key : ∀ (l : List Field) (fl : List (Nat × Nat × Bool)) (f : Nat), l.mapM (fieldOf P) = some fl → fl[f]? = some (off, size, g) → ∃ fd, l[f]? = some fd ∧ fieldOf P fd = some (off, size, g) := by
    intro l
    induction l with
    | nil => intro fl f h hf; simp at h; subst h; simp at hf
    | cons c l ih =>
      intro fl f h hf
      simp only [List.mapM_cons, Option.bind_eq_bind, Option.pure_def] at h
      cases hc : fieldOf P c with
      | none => simp [hc] at h
      | some y =>
        cases hr : l.mapM (fieldOf P) with
        | none => simp [hc, hr] at h
        | some ys =>
          simp [hc, hr] at h
          subst h
          cases f with
          | zero => simp at hf; subst hf; exact ⟨c, rfl, hc⟩
          | succ f => exact ih ys f hr (by simpa using hf)
  obtain ⟨fd, h1, h2⟩ := key fs.toList fl f h hf
  unfold fieldOf at h2
  cases hi : P.info? fd.type with
  | none => simp [hi] at h2
  | some i =>
    cases hd : P.underlying fd.type with
    | none => simp [hi, hd] at h2
    | some dd =>
      simp only [hi, hd, Option.some.injEq, Prod.mk.injEq] at h2
      exact ⟨fd, i, dd, by simpa using h1, hi, hd, h2.1.symm, h2.2.1.symm, h2.2.2.symm⟩
theorem fieldsOf_struct {d : TypeDesc} {fl : List (Nat × Nat × Bool)} {f : Nat} {y : Nat × Nat × Bool} (h : fieldsOf P d = some fl) (hf : fl[f]? = some y) : ∃ fs, d = .struct fs := by
  cases d <;> first
    | exact ⟨_, rfl⟩
    | (simp only [fieldsOf, Option.some.injEq] at h; subst h; simp at hf)
theorem run_loadVar_agg {t : TypeId} {dd : TypeDesc} {i : TypeInfo} (hu : P.underlying t = some dd) (hd : aggOf dd = true) (hi : P.info? t = some i) (b o : Nat) (cs : List Value) (hl : cs.length = i.size) (w : World)
    (hc : ∀ j v, cs[j]? = some v → w.cell? ⟨b, o + j, none⟩ = some v) : (loadVar t ⟨b, o, none⟩).run P w = .ok (.agg cs.toArray) w :=
  run_loadVar_at w b o t cs dd hc hu (by cases dd <;> simp_all [aggOf]) (by rw [hi, hl]; rfl)
theorem run_loadVar_one {t : TypeId} {dd : TypeDesc} (hu : P.underlying t = some dd) (hd : aggOf dd = false) {ad : Addr} {v : Value} {w : World} (hc : w.cell? ad = some v) : (loadVar t ad).run P w = .ok v w :=
  load_one hu (by cases dd <;> simp_all [aggOf]) hc
theorem run_storeVar_any {t : TypeId} {i : TypeInfo} (hi : P.info? t = some i) (b o : Nat) (T : TypeId) (cur : List Value) (v : Value) (hl : v.cells.toList.length = i.size) (w : World) (hg : w.heap[b]? = some (.cells cur.toArray T (0, 0)))
    (ho : o + v.cells.toList.length ≤ cur.length) (h1 : ∀ y ∈ v.cells.toList, y.oneCell' = true) :
    (storeVar t ⟨b, o, none⟩ v).run P w = .ok () (w.setRow b (cur.take o ++ v.cells.toList ++ cur.drop (o + v.cells.toList.length)).toArray) := by
  have := run_storeCells_at P b o T v.cells.toList 0 cur.toArray w hg (by simpa using ho) h1
  simp only [Nat.add_zero] at this
  have hs : v.cells.size = i.size := by simpa using hl
  simp [storeVar, sizeOf, typeInfo, hi, hs, this]
end
end Go.Proofs.Ytmpbofmhjjgccaa
