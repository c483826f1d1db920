/-
  Operations as they are reasoned about: append, the builtins, calls; all operations.
-/
import Derived.Test.YtmpbofmhjjgccaaAwF
namespace Go.Proofs.Ytmpbofmhjjgccaa
open Go.RowKit
set_option linter.unusedVariables false
set_option linter.unusedSimpArgs false

section
variable {base w w' : World} {G : Gh} {σ : St}
/-- In a list's own block it grows. -/
def Gh.more (G : Gh) (b k : Nat) (xs : List Value) : Gh := fun b' o => if b' = b ∧ k ≤ o ∧ o < k + xs.length then xs[o - k]? else G b' o
theorem Gh.le_more {b k : Nat} (h : ∀ o, k ≤ o → G b o = none) (xs : List Value) : G.le (G.more b k xs) := fun b' o v hv => by
  have : ¬ (b' = b ∧ k ≤ o ∧ o < k + xs.length) := by
    rintro ⟨rfl, h2, _⟩
    rw [h o h2] at hv
    cases hv
  simp only [Gh.more, if_neg this]
  exact hv
theorem Sim.dropTip (h : Sim base w G σ) (b : Nat) : Sim base w G (σ.setTip b none) := by
  refine h.weaken ⟨fun _ _ h => h, fun b' x hx => ?_⟩ (fun b' x hx => ?_)
  · by_cases e : b' = b
    · subst e; simp [St.setTip, upd] at hx
    · simpa [St.setTip, upd, e] using hx
  · by_cases e : b' = b
    · subst e; simp [St.setTip, upd] at hx
    · exact (h.tip b' x.1 x.2.1 x.2.2.1 x.2.2.2 (by simpa [St.setTip, upd, e] using hx)).2.1
theorem setTip_setTip (σ : St) (b : Nat) (x y : Option (TypeId × Nat × Nat × Nat)) : (σ.setTip b x).setTip b y = σ.setTip b y := by
  unfold St.setTip
  congr 1
  funext k
  by_cases e : k = b <;> simp [upd, e]
theorem Sim.more (h : Sim base w G σ) {b : Nat} {T : TypeId} {sz cap n m : Nat} (ht : σ.tip b = some (T, sz, cap, n)) (hn : n + m ≤ cap) (cur : Array Value) (hc : w.heap[b]? = some (.cells cur T (0, 0))) (news : List Value) (hl : news.length = m * sz) (h1 : ∀ x ∈ news, x.oneCell' = true) :
    Sim base (w.setRow b (cur.toList.take (n * sz) ++ news ++ cur.toList.drop (n * sz + news.length)).toArray) (G.more b (n * sz) news) (σ.setTip b (some (T, sz, cap, n + m))) := by
  obtain ⟨g1, g2, g3, g4, g5, cur', g6, g7⟩ := h.tip b T sz cap n ht
  rw [hc] at g6
  injection g6 with g6
  injection g6 with g6
  subst g6
  have hle := Gh.le_more (G := G) g3 news
  have hcs : n * sz + news.length ≤ cur.toList.length := by
    rw [hl, ← Nat.add_mul, Array.length_toList, g7]
    exact Nat.mul_le_mul_right _ hn
  have hlen : (cur.toList.take (n * sz) ++ news ++ cur.toList.drop (n * sz + news.length)).length = cur.size := by
    simp only [List.length_append, List.length_take, List.length_drop, Array.length_toList] at hcs ⊢
    omega
  have hrow := setRow_heap w b cur (cur.toList.take (n * sz) ++ news ++ cur.toList.drop (n * sz + news.length)).toArray T (0, 0) hc
  refine ⟨h.ok, h.below.trans ⟨rfl, rfl, rfl, by simp, fun k hk => setRow_other w b k _ (by omega)⟩, fun b' o v hv => ?_, fun b' T' cs hb => ?_, fun b' T' sz' cap' n' hb => ?_⟩
  · by_cases e : b' = b ∧ n * sz ≤ o ∧ o < n * sz + news.length
    · simp only [Gh.more, if_pos e] at hv
      obtain ⟨rfl, e2, e3⟩ := e
      refine ⟨?_, h1 v (List.mem_of_getElem? hv)⟩
      rw [blk_cell hrow, List.getElem?_toArray, List.append_assoc, List.getElem?_append_right (by rw [List.length_take]; omega), List.getElem?_append_left (by rw [List.length_take]; omega), List.length_take, Nat.min_eq_left (by omega)]
      exact hv
    · simp only [Gh.more, if_neg e] at hv
      obtain ⟨k1, k2⟩ := h.data b' o v hv
      refine ⟨?_, k2⟩
      by_cases eb : b' = b
      · subst eb
        have ho : o < n * sz := by
          rcases Nat.lt_or_ge o (n * sz) with h5 | h5
          · exact h5
          · rw [g3 o h5] at hv; cases hv
        rw [blk_cell hc] at k1
        rw [blk_cell hrow, List.getElem?_toArray, List.append_assoc, List.getElem?_append_left (by rw [List.length_take]; omega), List.getElem?_take, if_pos ho]
        simpa using k1
      · exact (World.cell?_of_block (setRow_other w b b' _ eb)).trans k1
  · obtain ⟨k1, k2, vs, k3, k4, k5⟩ := h.box b' T' cs hb
    have e : b' ≠ b := by
      rintro rfl
      rw [show σ.box b' = _ from hb] at g2
      cases g2
    exact ⟨k1, fun o => by
      have : ¬ (b' = b ∧ n * sz ≤ o ∧ o < n * sz + news.length) := fun h => e h.1
      simp only [Gh.more, if_neg this]
      exact k2 o, vs, (setRow_other w b b' _ e).trans k3, k4.mono hle, k5⟩
  · by_cases e : b' = b
    · subst e
      have : some (T, sz, cap, n + m) = some (T', sz', cap', n') := by simpa [St.setTip, upd] using hb
      injection this with this
      injection this with e1 this
      injection this with e2 this
      injection this with e3 e4
      subst e1; subst e2; subst e3; subst e4
      refine ⟨g1, g2, fun o ho => ?_, g4, hn, _, hrow, ?_⟩
      · have : ¬ (b' = b' ∧ n * sz ≤ o ∧ o < n * sz + news.length) := by rw [hl, ← Nat.add_mul]; omega
        unfold Gh.more
        rw [if_neg this]
        exact g3 o (by rw [Nat.add_mul] at ho; omega)
      · rw [List.size_toArray, hlen, g7]
    · obtain ⟨k1, k2, k3, k4, k5, cur', k6, k7⟩ := h.tip b' T' sz' cap' n' (by simpa [St.setTip, upd, e] using hb)
      exact ⟨k1, k2, fun o ho => by
        have : ¬ (b' = b ∧ n * sz ≤ o ∧ o < n * sz + news.length) := fun h => e h.1
        simp only [Gh.more, if_neg this]
        exact k3 o ho, k4, k5, cur', (setRow_other w b b' _ e).trans k6, k7⟩
end
section
variable {P : Program} {o : Oper} {a : Act} {F : Fr} {σ : St} {K : D → St → Prop} {n : Nat} {base w : World} {G : Gh} {next : Act → World → Prop} {Q : Exit → Act → World → Prop}
theorem Rep.two {ad : Addr} {c : Nat} {full : Bool} {sz : Nat} {old new : List (List D)} {us vs : List Value} {tip : Option (Nat × Nat)} (hs : ad.spot = none) (hc : old.length + new.length ≤ c) (hfull : full = false) (ho : ∀ cs ∈ old, cs.length = sz) (hn : ∀ cs ∈ new, cs.length = sz)
    (hu : RepL G us old.flatten) (hv : RepL G vs new.flatten) (hcell : ∀ k x, (us ++ vs)[k]? = some x → G ad.block (ad.off + k) = some x) (htip : ∀ b cap, tip = some (b, cap) → ad = ⟨b, 0, none⟩ ∧ c = cap) :
    Rep G (.slice (some ad) (old.length + new.length) c) (.slice tip full sz (old ++ new)) := by
  have hlen : (old ++ new).length = old.length + new.length := List.length_append
  have hall : ∀ cs ∈ old ++ new, cs.length = sz := fun cs h => by
    rcases List.mem_append.1 h with h | h
    · exact ho cs h
    · exact hn cs h
  have hl : (us ++ vs).length = (old ++ new).length * sz := by
    rw [← flat_len _ hall, List.flatten_append, List.length_append, List.length_append, hu.len, hv.len]
  rw [← hlen]
  refine .slice ad c tip full sz _ (fun k => (us ++ vs).getD k undef) hs (by rw [hlen]; exact hc) (by rw [hfull]; simp) hall (fun k hk => ?_) (fun k d hd => ?_) htip
  · have hk' : k < (us ++ vs).length := by rw [hl]; exact hk
    rw [hcell k _ (List.getElem?_eq_getElem hk'), List.getD_eq_getElem?_getD, List.getElem?_eq_getElem hk']
    rfl
  · have hk' : k < (us ++ vs).length := by
      rw [hl, ← flat_len _ hall]
      exact (List.getElem?_eq_some_iff.1 hd).1
    rw [List.getD_eq_getElem?_getD, List.getElem?_eq_getElem hk']
    show Rep G (us ++ vs)[k] d
    rw [List.flatten_append] at hd
    by_cases h1 : k < us.length
    · rw [List.getElem_append_left h1]
      rw [List.getElem?_append_left (by rw [← hu.len]; exact h1)] at hd
      exact hu.rep k _ d (List.getElem?_eq_getElem h1) hd
    · rw [List.getElem_append_right (by omega)]
      rw [List.getElem?_append_right (by rw [← hu.len]; omega), ← hu.len] at hd
      exact hv.rep _ _ d (List.getElem?_eq_getElem _) hd
/-- A list's cells, as they lie. -/
theorem Rep.cells_of {x : Value} {tip : Option (Nat × Nat)} {full : Bool} {sz : Nat} {ds : List (List D)} (hS : Sim base w G σ) (h : Rep G x (.slice tip full sz ds)) :
    ∃ b off c us, x = .slice (some ⟨b, off, none⟩) ds.length c ∧ ds.length ≤ c ∧ (full = true → c = ds.length) ∧ (∀ cs ∈ ds, cs.length = sz) ∧ RepL G us ds.flatten ∧ us.length = ds.length * sz ∧ (∀ j u, us[j]? = some u → w.cell? ((⟨b, off, none⟩ : Addr).add j) = some u) ∧ (∀ u ∈ us, u.oneCell' = true) ∧
      (∀ b' cap, tip = some (b', cap) → b = b' ∧ off = 0 ∧ c = cap) ∧ ∀ k u, us[k]? = some u → G b (off + k) = some u := by
  cases h with
  | slice ad c _ _ _ _ vals hs hc hfull hsz hcell hrep htip =>
    obtain ⟨b, off, sp⟩ := ad
    simp only at hs
    subst hs
    have hget : ∀ k u, ((List.range (ds.length * sz)).map vals)[k]? = some u → k < ds.length * sz ∧ u = vals k := by
      intro k u h
      rw [List.getElem?_map] at h
      obtain ⟨q, hq, rfl⟩ := Option.map_eq_some_iff.1 h
      obtain ⟨hlt, he⟩ := List.getElem?_eq_some_iff.1 hq
      simp at he hlt
      subst he
      exact ⟨hlt, rfl⟩
    refine ⟨b, off, c, (List.range (ds.length * sz)).map vals, rfl, hc, hfull, hsz, ⟨by rw [flat_len _ hsz]; simp, fun k u d h1 h2 => ?_⟩, by simp, fun j u hj => ?_, fun u hu => ?_, fun b' cap ht => ?_, fun k u hk => ?_⟩
    · obtain ⟨_, rfl⟩ := hget k u h1
      exact hrep k d h2
    · obtain ⟨h1, rfl⟩ := hget j u hj
      rw [addr_add]
      exact (hS.data _ _ _ (hcell j h1)).1
    · obtain ⟨k, hk⟩ := List.mem_iff_getElem?.1 hu
      obtain ⟨h1, rfl⟩ := hget k u hk
      exact (hS.data _ _ _ (hcell k h1)).2
    · obtain ⟨h1, h2⟩ := htip b' cap ht
      injection h1 with h1 h3 h4
      exact ⟨h1, h3, h2⟩
    · obtain ⟨h1, rfl⟩ := hget k u hk
      exact hcell k h1
theorem size_le {z : Value} {i : TypeInfo} (h : z.cells.toList.length = i.size) : z.cells.size = i.size := by simpa using h
/-- Behind an append that makes a new block. -/
theorem grown_rep {T : TypeId} {sz cap' : Nat} {old new : List (List D)} {us news : List Value} {w' : World} {tail : List Value} (hS : Sim base w G σ) (hb : Below w.heap.size w w')
    (hw : w'.heap[w.heap.size]? = some (.cells (us ++ news ++ tail).toArray T (0, 0))) (hcap : old.length + new.length ≤ cap') (hcm : cap' ≤ maxLen) (hsz : (us ++ news ++ tail).length = cap' * sz)
    (ho : ∀ cs ∈ old, cs.length = sz) (hn : ∀ cs ∈ new, cs.length = sz) (hu : RepL G us old.flatten) (hv : RepL G news new.flatten) (hu1 : ∀ y ∈ us, y.oneCell' = true) (hv1 : ∀ y ∈ news, y.oneCell' = true) :
    G.le (G.add w.heap.size (us ++ news)) ∧ Sim base w' (G.add w.heap.size (us ++ news)) (σ.setTip w.heap.size (some (T, sz, cap', old.length + new.length))) ∧
      Rep (G.add w.heap.size (us ++ news)) (.slice (some ⟨w.heap.size, 0, none⟩) (old.length + new.length) cap') (.slice (some (w.heap.size, cap')) false sz (old ++ new)) := by
  have hle := hS.le_add (us ++ news) (Nat.le_refl w.heap.size)
  have h1 : ∀ y ∈ us ++ news, y.oneCell' = true := fun y hy => by
    rcases List.mem_append.1 hy with hy | hy
    · exact hu1 y hy
    · exact hv1 y hy
  have hul : us.length = old.length * sz := by rw [hu.len, flat_len _ ho]
  have hvl : news.length = new.length * sz := by rw [hv.len, flat_len _ hn]
  have hS' := hS.newData hb T (us ++ news) tail hw h1
  refine ⟨hle, ?_, ?_⟩
  · refine hS'.newTip (hS.below.size) (hS.fresh_box (Nat.le_refl _)) (fun o ho' => ?_) hcm hcap hw (by simpa using hsz)
    simp only [Gh.add, if_true]
    exact List.getElem?_eq_none (by rw [List.length_append, hul, hvl, ← Nat.add_mul]; exact ho')
  · refine Rep.two rfl hcap rfl ho hn (hu.mono hle) (hv.mono hle) (fun k x hx => ?_) (by intro b cap h; injection h with h; injection h with h h'; subst h; subst h'; exact ⟨rfl, rfl⟩)
    simp only [Gh.add, if_true, Nat.zero_add]
    exact hx
theorem grow_fresh {e t ty : TypeId} {i : TypeInfo} {z : Value} {sz bytes : Nat} {old new : List (List D)} {σ1 : St} (ht : P.underlying t = some (.slice e)) (hi : P.info? e = some i) (hz : i.zero = some z) (hzs : z.cells.toList.length = i.size) (hsz : i.size = sz) (hby : i.bytes = bytes)
    (hS : Sim base w G σ) (hS1 : Sim base w G σ1) {x : Value} {ad : Addr} {c : Nat} {us news : List Value} (ho : ∀ cs ∈ old, cs.length = sz) (hn : ∀ cs ∈ new, cs.length = sz) (hu : RepL G us old.flatten) (hv : RepL G news new.flatten) (hu1 : ∀ y ∈ us, y.oneCell' = true) (hv1 : ∀ y ∈ news, y.oneCell' = true)
    (hul : us.length = old.length * sz) (hvl : news.length = new.length * sz) (hnews : ∀ j u, news[j]? = some u → w.cell? (ad.add j) = some u)
    (hx : (x = .slice none 0 0 ∧ old = [] ∧ 0 < new.length) ∨ ∃ a0 cap, x = .slice (some a0) old.length cap ∧ cap < old.length + new.length ∧ ∀ j u, us[j]? = some u → w.cell? (a0.add j) = some u)
    (hpos : 0 < sz) (h1 : (old.length + new.length) * bytes ≤ 140737488355328) (h2 : old.length + new.length ≤ 140737488355328) {K : D → St → Prop} (hk : ∀ b cap, σ.box b = none → σ.tip b = none → old.length + new.length ≤ cap → K (.slice (some (b, cap)) false sz (old ++ new)) (σ1.setTip b (some (e, sz, cap, old.length + new.length)))) :
    ∃ v w' G' d σ', (Builtin.append_ #[t, t] ty #[x, .slice (some ad) new.length c]).run P w = .ok v w' ∧ G.le G' ∧ Sim base w' G' σ' ∧ Rep G' v d ∧ K d σ' := by
  subst hsz
  subst hby
  have hzz := size_le hzs
  have fin : ∀ old' : Nat, ∃ v w' G' d σ', v = Value.slice (some ⟨w.heap.size, 0, none⟩) (old.length + new.length) (grownCap w (old.length + new.length) old' e) ∧ w' = w.drew.alloc (.cells (us.toArray ++ news.toArray ++ Builtin.zeroCells z.cells (grownCap w (old.length + new.length) old' e - (old.length + new.length))) e) ∧ G.le G' ∧ Sim base w' G' σ' ∧ Rep G' v d ∧ K d σ' := by
    intro old'
    have hge := grownCap_ge w (old.length + new.length) old' e
    have hcm := grownCap_le_maxLen w (old.length + new.length) old' e (by unfold maxLen; omega)
    have hB : Below w.heap.size w (w.drew.alloc (.cells (us.toArray ++ news.toArray ++ Builtin.zeroCells z.cells (grownCap w (old.length + new.length) old' e - (old.length + new.length))) e)) := ((Below.refl w.heap.size w).drew).alloc (Nat.le_refl _) _
    obtain ⟨h3, h4, h5⟩ := grown_rep (old := old) (new := new) (us := us) (news := news) (T := e) (sz := i.size) (cap' := grownCap w (old.length + new.length) old' e) (tail := (Builtin.zeroCells z.cells (grownCap w (old.length + new.length) old' e - (old.length + new.length))).toList) hS1 hB
      (by refine (heap_alloc_new w.drew _).trans ?_; simp) hge hcm (by
        simp only [List.length_append, Array.length_toList, size_zeroCells, hul, hvl, hzz, ← Nat.add_mul]
        congr 1
        omega) ho hn hu hv hu1 hv1
    exact ⟨_, _, _, _, _, rfl, rfl, h3, h4, h5, hk _ _ (hS.fresh_box (Nat.le_refl _)) (hS.fresh_tip (Nat.le_refl _)) hge⟩
  rcases hx with ⟨rfl, rfl, hpos'⟩ | ⟨a0, cap, rfl, hlt, hold⟩
  · have hu0 : us = [] := List.eq_nil_of_length_eq_zero (by simpa using hul)
    subst hu0
    obtain ⟨v, w', G', d, σ', rfl, rfl, h3⟩ := fin 0
    refine ⟨_, _, G', d, σ', ?_, h3⟩
    have hr := run_append_nil (P := P) w t ty e i z ht hi hz ad new.length c news hvl hnews hpos' (by simp at h2; omega) (by simp at h1; omega)
    simpa using hr
  · obtain ⟨v, w', G', d, σ', rfl, rfl, h3⟩ := fin cap
    refine ⟨_, _, G', d, σ', ?_, h3⟩
    exact run_append_grow (P := P) w t ty e i z ht hi hz a0 old.length cap us hul hold ad new.length c news hvl hnews (by omega) (by omega) (growslice_fits (by omega) h1)
end
end Go.Proofs.Ytmpbofmhjjgccaa
