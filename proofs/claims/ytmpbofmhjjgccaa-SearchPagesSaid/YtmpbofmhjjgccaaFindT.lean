/-
  Find, as a contract over values.
-/
import Derived.Test.YtmpbofmhjjgccaaFind
import Derived.Test.YtmpbofmhjjgccaaTest3
namespace Go.Proofs.Ytmpbofmhjjgccaa
open Go.RowKit
set_option maxRecDepth 100000
set_option linter.unusedVariables false
set_option linter.unusedSimpArgs false

section
variable {base w w' : World} {G G' : Gh} {σ τ : St}
/-- New cells that don't change. -/
theorem Sim.newRow (h : Sim base w G σ) (hb : Below w.heap.size w w') {g o0 : Nat} (hg : w.heap.size ≤ g) (xs : List Value) (hx : ∀ (k : Nat) (u : Value), xs[k]? = some u → w'.cell? ⟨g, o0 + k, none⟩ = some u) (h1 : ∀ x ∈ xs, x.oneCell' = true) :
    ∃ G', G.le G' ∧ Sim base w' G' σ ∧ ∀ (k : Nat) (u : Value), xs[k]? = some u → G' g (o0 + k) = some u := by
  have hgr := h.grow hb
  have hng : ∀ o, G g o = none := fun o => h.fresh_data hg o
  refine ⟨fun b o => if b = g then (if o0 ≤ o then xs[o - o0]? else none) else G b o, fun b o v hv => ?_, ⟨hgr.ok, hgr.below, fun b o v hv => ?_, fun b T cs hc => ?_, fun b T sz cap n hc => ?_⟩, fun k u hk => ?_⟩
  · have e : b ≠ g := by rintro rfl; rw [hng] at hv; cases hv
    simp only [if_neg e]
    exact hv
  · by_cases e : b = g
    · subst e
      simp only [if_true] at hv
      split at hv
      · rename_i ho
        have := hx _ _ hv
        rw [show o0 + (o - o0) = o by omega] at this
        exact ⟨this, h1 v (List.mem_of_getElem? hv)⟩
      · cases hv
    · simp only [if_neg e] at hv
      exact hgr.data b o v hv
  · obtain ⟨k1, k2, us, k3, k4, k5⟩ := h.box b T cs hc
    obtain ⟨j1, j2, us', j3, j4, j5⟩ := hgr.box b T cs hc
    have e : b ≠ g := by have := blk_lt k3; omega
    refine ⟨j1, fun o => by simp only [if_neg e]; exact j2 o, us', j3, j4.mono (fun b' o' v' hv' => ?_), j5⟩
    have e : b' ≠ g := by rintro rfl; rw [hng] at hv'; cases hv'
    simp only [if_neg e]
    exact hv'
  · obtain ⟨k1, k2, k3, k4, k5, cur, k6, k7⟩ := h.tip b T sz cap n hc
    obtain ⟨j1, j2, j3, j4⟩ := hgr.tip b T sz cap n hc
    have e : b ≠ g := by have := blk_lt k6; omega
    exact ⟨j1, j2, fun o ho => by simp only [if_neg e]; exact j3 o ho, j4⟩
  · simp only [if_true]
    rw [if_pos (Nat.le_add_right _ _), show o0 + k - o0 = k by omega]
    exact hk
theorem rep_row {g o0 c : Nat} {sz : Nat} (yss : List (List Value)) (hs : ∀ ys ∈ yss, ys.length = sz) (hc : yss.length ≤ c) (h : ∀ (k : Nat) (u : Value), yss.flatten[k]? = some u → G g (o0 + k) = some u) :
    Rep G (.slice (some ⟨g, o0, none⟩) yss.length c) (.slice none false sz (yss.map fun ys => ys.map D.v)) := by
  have hf : (yss.map fun ys => ys.map D.v).flatten = yss.flatten.map D.v := by rw [List.map_flatten]
  have hlen : yss.flatten.length = yss.length * sz := by
    clear hc h hf
    induction yss with
    | nil => simp
    | cons y ys ih => rw [List.flatten_cons, List.length_append, ih (fun z hz => hs z (by simp [hz])), hs y (by simp), List.length_cons, Nat.add_mul]; omega
  have hll : (yss.map fun ys => ys.map D.v).length = yss.length := by simp
  have := Rep.slice (G := G) ⟨g, o0, none⟩ c none false sz (yss.map fun ys => ys.map D.v) (fun k => yss.flatten.getD k (.bool false)) rfl (by rw [hll]; exact hc) (by simp) (by
    intro cs hcs
    obtain ⟨ys, hy, rfl⟩ := List.mem_map.1 hcs
    rw [List.length_map]
    exact hs ys hy) (by
    intro k hk
    rw [hll, ← hlen] at hk
    refine h k _ ?_
    rw [List.getD_eq_getElem?_getD, List.getElem?_eq_getElem hk]
    rfl) (by
    intro k d hd
    rw [hf, List.getElem?_map, Option.map_eq_some_iff] at hd
    obtain ⟨u, hu, rfl⟩ := hd
    rw [List.getD_eq_getElem?_getD, hu]
    exact .v _) (by simp)
  rwa [hll] at this
/-- A list's cells, in the world. -/
theorem Rep.cells_at {x : Value} {d : D} {nl : Bool} {tip : Option (Nat × Nat)} {full : Bool} {sz : Nat} (yss : List (List Value)) (hS : Sim base w G σ) (h : Rep G x d) (hd : d.list = some (nl, tip, full, sz, yss.map fun ys => ys.map D.v)) :
    (x = .slice none 0 0 ∧ yss = []) ∨ ∃ g o c, x = .slice (some ⟨g, o, none⟩) yss.length c ∧ yss.length ≤ c ∧ ∀ (k : Nat) (u : Value), yss.flatten[k]? = some u → w.cell? ⟨g, o + k, none⟩ = some u := by
  rcases h.list_inv hd with ⟨_, _, h1, h2⟩ | h
  · exact .inl ⟨h1, by simpa using h2⟩
  · have hf : (yss.map fun ys => ys.map D.v).flatten = yss.flatten.map D.v := by rw [List.map_flatten]
    have hll : (yss.map fun ys => ys.map D.v).length = yss.length := by simp
    generalize hds : (yss.map fun ys => ys.map D.v) = ds at h hf hll
    cases h with
    | slice a c _ _ _ _ vals hs hc hfull hsz hcell hrep htip =>
      obtain ⟨g, o, sp⟩ := a
      simp only at hs
      subst hs
      refine .inr ⟨g, o, c, by rw [hll], by rw [← hll]; exact hc, fun k u hk => ?_⟩
      have hk' : ds.flatten[k]? = some (.v u) := by rw [hf, List.getElem?_map, hk]; rfl
      have hlt : k < ds.length * sz := by
        have h2 : k < ds.flatten.length := (List.getElem?_eq_some_iff.1 hk').1
        rwa [flat_len ds hsz] at h2
      have := (hS.data _ _ _ (hcell k hlt)).1
      rw [(hrep k _ hk').v_inv] at this
      exact this
end
theorem SVd_cells (x : SV) : SVd x = x.cells.map D.v := rfl
theorem SVd_map (l : List SV) : l.map SVd = (l.map SV.cells).map fun ys => ys.map D.v := by rw [List.map_map]; rfl
theorem types_map (l : List ByteArray) : (l.map fun t => [D.s t]) = (l.map fun t => [Value.string t]).map fun ys => ys.map D.v := by rw [List.map_map]; rfl
theorem sumC_flat (l : List SV) : (l.map SV.cells).flatten = sumC l := by unfold sumC; rw [List.flatMap_def]
theorem maxAt {base w : World} {G : Gh} {σ : St} (h : Sim base w G σ) : MaxAt w := by
  obtain ⟨m, hm⟩ := h.ok.maxLen
  exact ⟨m, (h.below.cell (World.block_lt_of_cell? _ _ hm)).trans hm⟩

theorem findT (q : QV) (l : List SV) (dl dt : D) (σ : St) {nl nl' : Bool} {tip tip' : Option (Nat × Nat)} {full full' : Bool} (hd : dl.list = some (nl, tip, full, 10, l.map SVd)) (hdt : dt.list = some (nl', tip', full', 1, q.types.map fun t => [D.s t]))
    (hn : l.length ≤ 1000) (hx : ∀ x ∈ l, SmallS x) (hl : q.types.length ≤ 1000) (hq : q.term.size ≤ maxLen) (h1 : 1 ≤ q.limit) (h2 : q.limit ≤ 50) (h3 : 0 ≤ q.since) (h4 : q.since < 9223372036854775807) :
    Tri Try.prog 8 [dl, .agg [.s q.term, dt, .i q.limit, .i q.since]] σ fun d τ =>
      d = .tup [.agg [.lst false 10 ((pageL q l).map SVd), .i (fitL q l).length, .i (nextI q l), .i (prevI q)], .v .nilIface] ∧ τ = σ := by
  intro base w G vs hS hA
  obtain ⟨x, xs, rfl, hxl, hA⟩ := hA.inv
  obtain ⟨y, xs, rfl, hy, hA⟩ := hA.inv
  cases hA.inv0
  obtain ⟨c, hc, p, htv⟩ : ∃ us : List Value, y = .agg us.toArray ∧ RepL G us [.s q.term, dt, .i q.limit, .i q.since] := by
    cases hy with
    | agg us cs hl h1 hrep => exact ⟨us, rfl, hl, hrep⟩
  subst hc
  obtain ⟨u0, us, rfl, r0, hA⟩ := (RepL.mk p htv).inv
  obtain ⟨u1, us, rfl, r1, hA⟩ := hA.inv
  obtain ⟨u2, us, rfl, r2, hA⟩ := hA.inv
  obtain ⟨u3, us, rfl, r3, hA⟩ := hA.inv
  cases hA.inv0
  cases r0.v_inv
  cases r2.v_inv
  cases r3.v_inv
  have hI : InC w x l := by
    rw [SVd_map] at hd
    rcases hxl.cells_at _ hS hd with ⟨e1, e2⟩ | ⟨g, o, c, e1, e2, e3⟩
    · exact .inl ⟨e1, by simpa using e2⟩
    · rw [sumC_flat] at e3
      rw [List.length_map] at e1
      exact .inr ⟨g, o, c, e1, e3⟩
  obtain ⟨pt, ct, rfl, hT⟩ : ∃ pt ct, u1 = .slice pt q.types.length ct ∧ TypesAt w pt q.types := by
    rw [types_map] at hdt
    rcases r1.cells_at _ hS hdt with ⟨e1, e2⟩ | ⟨g, o, c, e1, e2, e3⟩
    · have e2 : q.types = [] := by simpa using e2
      exact ⟨none, 0, by rw [e1, e2]; rfl, .inl e2⟩
    · rw [List.length_map] at e1
      refine ⟨_, _, e1, .inr ⟨g, o, rfl, fun j hj => ?_⟩⟩
      refine e3 j _ ?_
      have : (q.types.map fun t => [Value.string t]).flatten = q.types.map Value.string := by
        generalize q.types = z
        induction z with
        | nil => rfl
        | cons a z ih => simp only [List.map_cons, List.flatten_cons, ih]; rfl
      rw [this, List.getElem?_map, List.getElem?_eq_getElem hj, List.getD_eq_getElem?_getD, List.getElem?_eq_getElem hj]
      rfl
  have hf := find_all x l q pt ct w hI hn hx (maxAt hS) hT hl hq h1 h2 h3 h4
  refine hf.mono ?_
  rintro e w' ⟨⟨rp, rc, rfl, hrm, hnw⟩, hb⟩
  have fin : ∀ G', G.le G' → Sim base w' G' σ → Rep G' (.slice rp (pageL q l).length rc) (.lst false 10 ((pageL q l).map SVd)) → ∃ v d σ' G', Ending.returned (.tuple #[.agg #[.slice rp (pageL q l).length rc, .int .i64 (fitL q l).length, .int .i64 (nextI q l), .int .i64 (prevI q)], .nilIface]) = .returned v ∧ G.le G' ∧ Sim base w' G' σ' ∧ Rep G' v d ∧ (d = .tup [.agg [.lst false 10 ((pageL q l).map SVd), .i (fitL q l).length, .i (nextI q l), .i (prevI q)], .v .nilIface] ∧ σ' = σ) := by
    intro G' hle hS' hr
    refine ⟨_, _, σ, G', rfl, hle, hS', ?_, rfl, rfl⟩
    have ha : RepL G' [.slice rp (pageL q l).length rc, .int .i64 (fitL q l).length, .int .i64 (nextI q l), .int .i64 (prevI q)] [.lst false 10 ((pageL q l).map SVd), .i (fitL q l).length, .i (nextI q l), .i (prevI q)] :=
      RepL.cons hr (RepL.cons (.v _) (RepL.cons (.v _) (RepL.cons (.v _) (RepL.nil _))))
    have hag : Rep G' (.agg #[.slice rp (pageL q l).length rc, .int .i64 (fitL q l).length, .int .i64 (nextI q l), .int .i64 (prevI q)]) (.agg [.lst false 10 ((pageL q l).map SVd), .i (fitL q l).length, .i (nextI q l), .i (prevI q)]) :=
      .agg [_, _, _, _] _ ha.len (by simp [Value.oneCell']) ha.rep
    have ht := RepL.cons hag (RepL.cons (.v .nilIface) (RepL.nil G'))
    exact .tup [_, _] _ ht.len ht.rep
  by_cases hp0 : pageL q l = []
  · refine fin G (Gh.le_refl G) (hS.grow hb) ?_
    rw [hp0]
    cases hrp : rp with
    | none =>
      rw [hnw.nn hrp]
      exact .lst0 _ _
    | some a =>
      refine .lst _ _ _ _ (.slice a rc none false 10 [] (fun _ => .bool false) (hnw.spot a hrp) (Nat.zero_le _) (by simp) (by simp) (by intro k hk; simp at hk) (by intro k d hk; simp at hk) (by simp))
  · rcases hrm with h | ⟨g, o, hrp, hcell⟩
    · exact absurd h hp0
    · subst hrp
      obtain ⟨G', hle, hS', hG⟩ := hS.newRow hb (o0 := o) (hnw.new g o rfl) (sumC (pageL q l)) (fun k u hk => by
        have hlt : k < (sumC (pageL q l)).length := (List.getElem?_eq_some_iff.1 hk).1
        rw [len_sumC] at hlt
        have hj : k / 10 < (pageL q l).length := by omega
        have hx := List.getElem?_eq_getElem hj
        have hcl : ((pageL q l)[k / 10]).cells.length = 10 := rfl
        have hi : k % 10 < ((pageL q l)[k / 10]).cells.length := by rw [hcl]; omega
        have h2 := hcell (k / 10) _ (k % 10) _ hx (List.getElem?_eq_getElem hi)
        have h3 := sum_get (pageL q l) [] (k / 10) _ (k % 10) _ hx (List.getElem?_eq_getElem hi)
        rw [List.append_nil, show k / 10 * 10 + k % 10 = k by omega, hk] at h3
        injection h3 with h3
        rw [show k / 10 * 10 + k % 10 = k by omega, ← h3] at h2
        exact h2) (by
        intro u hu
        unfold sumC at hu
        obtain ⟨x, _, hu⟩ := List.mem_flatMap.1 hu
        exact one_SV x u hu)
      refine fin G' hle hS' (.lst _ _ _ _ ?_)
      have := rep_row (G := G') (g := g) (o0 := o) (c := rc) (sz := 10) ((pageL q l).map SV.cells) (by intro ys hy; obtain ⟨x, _, rfl⟩ := List.mem_map.1 hy; rfl) (by rw [List.length_map]; exact hnw.le) (by rw [sumC_flat]; exact hG)
      rw [← SVd_map, List.length_map] at this
      exact this
end Go.Proofs.Ytmpbofmhjjgccaa
