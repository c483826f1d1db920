/-
  A region that draws its order, by an invariant: no orders are counted.
-/
import Derived.Test.YtmpbofmhjjgccaaRows
import Derived.WalkKit
import Derived.Orders
namespace Go.Proofs.Ytmpbofmhjjgccaa
open Go.RowKit
set_option linter.unusedVariables false
set_option linter.unusedSimpArgs false
section
variable {P : Program} {ops : Array Oper} {Q : Exit → Act → World → Prop} {md : Region.Mode}

/-- How many are not listed yet. -/
def openOps (n : Nat) (L : Array Bool) : Nat := ((List.range n).filter fun i => !L.getD i true).length

theorem openOps_succ (n : Nat) (L : Array Bool) : openOps (n + 1) L = openOps n L + (if !L.getD n true then 1 else 0) := by
  unfold openOps
  rw [List.range_succ, List.filter_append, List.length_append]
  congr 1
  rw [List.filter_cons, List.filter_nil]
  split <;> simp_all
theorem getD_set (L : Array Bool) (i j : Nat) (b d : Bool) (hi : i < L.size) : (L.setIfInBounds i b).getD j d = if i = j then b else L.getD j d := by
  simp only [Array.getD_eq_getD_getElem?, Array.getElem?_setIfInBounds]
  split <;> simp [hi]
theorem openOps_le (L : Array Bool) (i : Nat) (hs : i < L.size) : ∀ n, openOps n (L.setIfInBounds i true) ≤ openOps n L
  | 0 => Nat.le_refl _
  | n + 1 => by
    rw [openOps_succ, openOps_succ, getD_set L i n true true hs]
    have := openOps_le L i hs n
    by_cases h : i = n
    · rw [if_pos h]; simp; omega
    · rw [if_neg h]; omega
theorem openOps_set (L : Array Bool) (i : Nat) (hs : i < L.size) (h : L.getD i true = false) : ∀ n, i < n → openOps n (L.setIfInBounds i true) < openOps n L
  | 0, hn => by omega
  | n + 1, hn => by
    rw [openOps_succ, openOps_succ, getD_set L i n true true hs]
    by_cases he : i = n
    · subst he
      have := openOps_le L i hs i
      rw [if_pos rfl, h]; simp; omega
    · have := openOps_set L i hs h n (by omega)
      rw [if_neg he]; omega

theorem wpAny_inv (Inv : Array Bool → Act → World → Prop)
    (hstep : ∀ L a w, L.size = ops.size → Inv L a w → ∀ i ∈ Region.ready md ops L, wpOp P ops Q i (fun a' w' => Inv (L.setIfInBounds i true) a' w') a w)
    (hend : ∀ L a w, L.size = ops.size → Inv L a w → Region.ready md ops L = [] → Q .normal a w) :
    ∀ fuel L a w, L.size = ops.size → openOps ops.size L ≤ fuel → Inv L a w → wpAny P md ops Q fuel L a w := by
  intro fuel
  induction fuel with
  | zero =>
    intro L a w hL hf hI
    have hr : Region.ready md ops L = [] := by
      apply List.eq_nil_of_length_eq_zero
      have : (Region.ready md ops L).length ≤ openOps ops.size L := by
        unfold Region.ready openOps
        rw [← List.countP_eq_length_filter, ← List.countP_eq_length_filter]
        refine List.countP_mono_left fun i _ h => ?_
        simp only [Bool.and_eq_true] at h
        exact h.1
      omega
    exact ⟨hr, hend L a w hL hI hr⟩
  | succ fuel ih =>
    intro L a w hL hf hI
    refine ⟨fun hr => hend L a w hL hI hr, fun i hi => ?_⟩
    refine wpOp_mono (fun a' w' h => ih _ a' w' (by simpa using hL) ?_ h) (hstep L a w hL hI i hi)
    have hm := mem_ready.1 hi
    have h1 : i < ops.size ∧ L.getD i true = false := by
      unfold Region.ready at hi
      simp only [List.mem_filter, List.mem_range, Bool.and_eq_true, Bool.not_eq_true'] at hi
      exact ⟨hi.1, hi.2.1⟩
    have := openOps_set L i (by omega) h1.2 ops.size h1.1
    omega

/-- A region that draws: the frame is a function of the operations' values. -/
theorem wp_region_vals {id : Nat} (hm : P.follows .mixedOrders = true) (frame : (Nat → Value) → Act) (v0 : Nat → Value) (w : World) (Inv : (Nat → Bool) → (Nat → Value) → World → Prop)
    (hput : ∀ vs i v o, ops[i]? = some o → (frame vs).put o.dst v = frame (fun j => if j = i then v else vs j))
    (hg : ∀ (i : Nat) (o : Oper), ops[i]? = some o → o.guard = none)
    (h0 : Inv (fun _ => false) v0 w.drew)
    (hstep : ∀ L vs w, Inv L vs w → ∀ i o, ops[i]? = some o → L i = false → (∀ e ∈ o.after, Region.binds .any e = true → L e.on = true) →
      ∀ K : Act → World → Prop, (∀ v w', Inv (fun j => L j || (j == i)) (fun j => if j = i then v else vs j) w' → K ((frame vs).put o.dst v) w') → o.wp P (frame vs) w K Q)
    (hend : ∀ L vs w, Inv L vs w → (∀ i, i < ops.size → L i = true) → Q .normal (frame vs) w)
    (hback : ∀ (i : Nat) (o : Oper), ops[i]? = some o → ∀ e ∈ o.after, e.on < i) : (Code.region id ops true).wp P Q (frame v0) w := by
  refine wp_region_any hm ?_
  refine wpAny_inv (fun L a w => ∃ vs, a = frame vs ∧ Inv (fun j => L.getD j false) vs w) ?_ ?_ ops.size _ _ _ (by simp) ?_ ?_
  · rintro L a w hL ⟨vs, rfl, hI⟩ i hi
    obtain ⟨h1, o, ho, h2⟩ := mem_ready.1 hi
    have hlt : i < L.size := by rw [hL]; exact (Array.getElem?_eq_some_iff.1 ho).1
    unfold wpOp
    rw [ho]
    have hw : Region.wanted o (yielded ops (frame vs).tmps) = true := by simp [Region.wanted, hg i o ho]
    simp only [hw, if_true]
    refine .inl (hstep _ vs w hI i o ho (by simpa [hlt] using h1) h2 _ fun v w' hI' => ?_)
    refine ⟨_, hput vs i v o ho, ?_⟩
    have : (fun j => (L.setIfInBounds i true).getD j false) = fun j => L.getD j false || (j == i) := by
      funext j
      rw [getD_set L i j true false hlt]
      by_cases h : i = j
      · subst h; simp
      · rw [if_neg h]
        have : (j == i) = false := by simp; omega
        rw [this, Bool.or_false]
    rw [this]
    exact hI'
  · rintro L a w hL ⟨vs, rfl, hI⟩ hr
    refine hend _ vs w hI fun i hi => ?_
    induction i using Nat.strongRecOn with
    | _ i ih =>
      cases hc : L.getD i false with
      | true => rfl
      | false =>
        have : i ∈ Region.ready .any ops L := by
          refine mem_ready.2 ⟨by simpa [hL, hi] using hc, ops[i], Array.getElem?_eq_getElem hi, fun e he _ => ?_⟩
          have hb := hback i ops[i] (Array.getElem?_eq_getElem hi) e he
          exact ih e.on hb (by omega)
        rw [hr] at this
        cases this
  · unfold openOps
    exact Nat.le_trans (List.length_filter_le _ _) (by simp)
  · refine ⟨v0, rfl, ?_⟩
    have : (fun j => (Array.replicate ops.size false).getD j false) = fun _ => false := by
      funext j
      simp only [Array.getD_eq_getD_getElem?, Array.getElem?_replicate]
      split <;> rfl
    rw [this]
    exact h0

/-! ### A frame with some slots as a function tells -/
def mapI (ds : List Nat) (vs : Nat → Value) : Nat → List Value → List Value
  | _, [] => []
  | t, x :: xs => (match ds.idxOf? t with | some i => vs i | none => x) :: mapI ds vs (t + 1) xs
theorem mapI_len (ds : List Nat) (vs : Nat → Value) : ∀ (l : List Value) (t : Nat), (mapI ds vs t l).length = l.length
  | [], _ => rfl
  | x :: xs, t => by rw [mapI, List.length_cons, List.length_cons, mapI_len ds vs xs]
theorem mapI_get (ds : List Nat) (vs : Nat → Value) : ∀ (l : List Value) (t k : Nat), (mapI ds vs t l)[k]? = (l[k]?).map fun x => match ds.idxOf? (t + k) with | some i => vs i | none => x
  | [], _, _ => rfl
  | x :: xs, t, 0 => rfl
  | x :: xs, t, k + 1 => by
    rw [mapI, List.getElem?_cons_succ, List.getElem?_cons_succ, mapI_get ds vs xs, show t + 1 + k = t + (k + 1) by omega]
def frameAt (a : Act) (ds : List Nat) (vs : Nat → Value) : Act := ⟨(mapI ds vs 0 a.tmps.toList).toArray, a.defers⟩
theorem frameAt_get (a : Act) (ds : List Nat) (vs : Nat → Value) (k : Nat) : (frameAt a ds vs).tmps[k]? = (a.tmps[k]?).map fun x => match ds.idxOf? k with | some i => vs i | none => x := by
  unfold frameAt
  rw [List.getElem?_toArray, mapI_get, Nat.zero_add, Array.getElem?_toList]
theorem frameAt_in (a : Act) (ds : List Nat) (vs : Nat → Value) (t i : Nat) (hi : ds.idxOf? t = some i) (ht : t < a.tmps.size) : (frameAt a ds vs).eval (.tmp t) = vs i := by
  simp [Act.eval, Array.getD_eq_getD_getElem?, frameAt_get, hi, ht]
theorem frameAt_out (a : Act) (ds : List Nat) (vs : Nat → Value) (t : Nat) (hi : ds.idxOf? t = none) : (frameAt a ds vs).eval (.tmp t) = a.eval (.tmp t) := by
  simp [Act.eval, Array.getD_eq_getD_getElem?, frameAt_get, hi]
theorem frameAt_put (a : Act) (ds : List Nat) (vs : Nat → Value) (t i : Nat) (v : Value) (hn : ds.Nodup) (hi : ds[i]? = some t) : (frameAt a ds vs).put (some t) v = frameAt a ds (fun j => if j = i then v else vs j) := by
  have hlt : i < ds.length := (List.getElem?_eq_some_iff.1 hi).1
  have hget : ds[i] = t := (List.getElem?_eq_some_iff.1 hi).2
  have hself : ds.idxOf? t = some i := by
    rw [List.idxOf?_eq_some_iff]
    refine ⟨hlt, hget, fun j hj h => ?_⟩
    have := List.pairwise_iff_getElem.1 hn j i (by omega) hlt hj
    exact this (h.trans hget.symm)
  have hother : ∀ k j, ds.idxOf? k = some j → j = i → k = t := by
    intro k j h1 h2
    subst h2
    rw [List.idxOf?_eq_some_iff] at h1
    obtain ⟨_, h3, _⟩ := h1
    exact h3.symm.trans hget
  have hE : ∀ a b : Act, a.tmps = b.tmps → a.defers = b.defers → a = b := by
    intro a b h1 h2
    cases a; cases b
    simp_all
  refine hE _ _ (Array.ext_getElem? fun k => ?_) rfl
  show ((frameAt a ds vs).tmps.setIfInBounds t v)[k]? = _
  rw [Array.getElem?_setIfInBounds, frameAt_get, frameAt_get]
  have hsz : (frameAt a ds vs).tmps.size = a.tmps.size := by simp [frameAt, mapI_len]
  by_cases hk : t = k
  · subst hk
    rw [if_pos rfl, hself, hsz]
    by_cases ht : t < a.tmps.size
    · simp [ht]
    · simp [ht]
  · rw [if_neg hk]
    cases hc : ds.idxOf? k with
    | none => rfl
    | some j =>
      have : j ≠ i := fun e => hk (hother k j hc e).symm
      simp only
      rw [if_neg this]
theorem frameAt_self (a : Act) (ds : List Nat) : frameAt a ds (fun i => a.tmps.getD (ds.getD i 0) undef) = a := by
  have hE : ∀ a b : Act, a.tmps = b.tmps → a.defers = b.defers → a = b := by
    intro a b h1 h2
    cases a; cases b
    simp_all
  refine hE _ _ (Array.ext_getElem? fun k => ?_) rfl
  rw [frameAt_get]
  cases hx : a.tmps[k]? with
  | none => rfl
  | some x =>
    simp only [Option.map_some]
    cases hc : ds.idxOf? k with
    | none => rfl
    | some i =>
      rw [List.idxOf?_eq_some_iff] at hc
      obtain ⟨h1, h2, _⟩ := hc
      have hd : ds.getD i 0 = k := by simp [List.getD_eq_getElem?_getD, h1, h2]
      simp only
      rw [hd, Array.getD_eq_getD_getElem?, hx]
      rfl

/-- A region that draws, by an invariant on the operations' values: 'ds' are the slots that its operations write, one behind the other (those that write none stand last). -/
theorem wp_region_frame {id : Nat} {a : Act} {w : World} (hm : P.follows .mixedOrders = true) (ds : List Nat) (hn : ds.Nodup) (Inv : (Nat → Bool) → (Nat → Value) → World → Prop)
    (hdst : ∀ (i : Nat) (o : Oper), ops[i]? = some o → o.dst = ds[i]?)
    (hg : ∀ (i : Nat) (o : Oper), ops[i]? = some o → o.guard = none)
    (hback : ∀ (i : Nat) (o : Oper), ops[i]? = some o → ∀ e ∈ o.after, e.on < i)
    (h0 : Inv (fun _ => false) (fun i => a.tmps.getD (ds.getD i 0) undef) w.drew)
    (hstep : ∀ L vs w, Inv L vs w → ∀ i o, ops[i]? = some o → L i = false → (∀ e ∈ o.after, Region.binds .any e = true → L e.on = true) →
      ∀ K : Act → World → Prop, (∀ v w', Inv (fun j => L j || (j == i)) (fun j => if j = i then v else vs j) w' → K ((frameAt a ds vs).put o.dst v) w') → o.wp P (frameAt a ds vs) w K Q)
    (hend : ∀ L vs w, Inv L vs w → (∀ i, i < ops.size → L i = true) → Q .normal (frameAt a ds vs) w) : (Code.region id ops true).wp P Q a w := by
  have h := wp_region_vals (P := P) (ops := ops) (Q := Q) (id := id) hm (frameAt a ds) (fun i => a.tmps.getD (ds.getD i 0) undef) w Inv (fun vs i v o ho => ?_) hg h0 hstep hend hback
  · rw [frameAt_self] at h
    exact h
  · rw [hdst i o ho]
    cases hd : ds[i]? with
    | some t => exact frameAt_put a ds vs t i v hn hd
    | none =>
      show frameAt a ds vs = _
      have hle : ds.length ≤ i := by simpa using hd
      unfold frameAt
      congr 2
      have : ∀ (l : List Value) (t : Nat), mapI ds vs t l = mapI ds (fun j => if j = i then v else vs j) t l := by
        intro l
        induction l with
        | nil => intro t; rfl
        | cons x xs ih =>
          intro t
          rw [mapI, mapI, ih]
          congr 1
          cases hc : ds.idxOf? t with
          | none => rfl
          | some j =>
            rw [List.idxOf?_eq_some_iff] at hc
            obtain ⟨h1, _, _⟩ := hc
            simp only
            rw [if_neg (by omega)]
      exact this _ _

/-- As 'wp_region_vals', with guards: each guarded operation is wanted when it is ready. -/
theorem wp_region_valsG {id : Nat} (hm : P.follows .mixedOrders = true) (frame : (Nat → Value) → Act) (v0 : Nat → Value) (w : World) (Inv : (Nat → Bool) → (Nat → Value) → World → Prop)
    (hput : ∀ vs i v o, ops[i]? = some o → (frame vs).put o.dst v = frame (fun j => if j = i then v else vs j))
    (hg : ∀ L vs w, Inv L vs w → ∀ (i : Nat) (o : Oper), ops[i]? = some o → L i = false → (∀ e ∈ o.after, Region.binds .any e = true → L e.on = true) → Region.wanted o (yielded ops (frame vs).tmps) = true)
    (h0 : Inv (fun _ => false) v0 w.drew)
    (hstep : ∀ L vs w, Inv L vs w → ∀ i o, ops[i]? = some o → L i = false → (∀ e ∈ o.after, Region.binds .any e = true → L e.on = true) →
      ∀ K : Act → World → Prop, (∀ v w', Inv (fun j => L j || (j == i)) (fun j => if j = i then v else vs j) w' → K ((frame vs).put o.dst v) w') → o.wp P (frame vs) w K Q)
    (hend : ∀ L vs w, Inv L vs w → (∀ i, i < ops.size → L i = true) → Q .normal (frame vs) w)
    (hback : ∀ (i : Nat) (o : Oper), ops[i]? = some o → ∀ e ∈ o.after, e.on < i) : (Code.region id ops true).wp P Q (frame v0) w := by
  refine wp_region_any hm ?_
  refine wpAny_inv (fun L a w => ∃ vs, a = frame vs ∧ Inv (fun j => L.getD j false) vs w) ?_ ?_ ops.size _ _ _ (by simp) ?_ ?_
  · rintro L a w hL ⟨vs, rfl, hI⟩ i hi
    obtain ⟨h1, o, ho, h2⟩ := mem_ready.1 hi
    have hlt : i < L.size := by rw [hL]; exact (Array.getElem?_eq_some_iff.1 ho).1
    unfold wpOp
    rw [ho]
    have hw : Region.wanted o (yielded ops (frame vs).tmps) = true := hg _ vs w hI i o ho (by simpa [hlt] using h1) h2
    simp only [hw, if_true]
    refine .inl (hstep _ vs w hI i o ho (by simpa [hlt] using h1) h2 _ fun v w' hI' => ?_)
    refine ⟨_, hput vs i v o ho, ?_⟩
    have : (fun j => (L.setIfInBounds i true).getD j false) = fun j => L.getD j false || (j == i) := by
      funext j
      rw [getD_set L i j true false hlt]
      by_cases h : i = j
      · subst h; simp
      · rw [if_neg h]
        have : (j == i) = false := by simp; omega
        rw [this, Bool.or_false]
    rw [this]
    exact hI'
  · rintro L a w hL ⟨vs, rfl, hI⟩ hr
    refine hend _ vs w hI fun i hi => ?_
    induction i using Nat.strongRecOn with
    | _ i ih =>
      cases hc : L.getD i false with
      | true => rfl
      | false =>
        have : i ∈ Region.ready .any ops L := by
          refine mem_ready.2 ⟨by simpa [hL, hi] using hc, ops[i], Array.getElem?_eq_getElem hi, fun e he _ => ?_⟩
          have hb := hback i ops[i] (Array.getElem?_eq_getElem hi) e he
          exact ih e.on hb (by omega)
        rw [hr] at this
        cases this
  · unfold openOps
    exact Nat.le_trans (List.length_filter_le _ _) (by simp)
  · refine ⟨v0, rfl, ?_⟩
    have : (fun j => (Array.replicate ops.size false).getD j false) = fun _ => false := by
      funext j
      simp only [Array.getD_eq_getD_getElem?, Array.getElem?_replicate]
      split <;> rfl
    rw [this]
    exact h0
theorem yielded_frame {a : Act} {ds : List Nat} {vs : Nat → Value} (hn : ds.Nodup) (hdst : ∀ (i : Nat) (o : Oper), ops[i]? = some o → o.dst = ds[i]?) (j : Nat) (b : Bool) (t : Nat) (o : Oper) (ho : ops[j]? = some o) (hj : ds[j]? = some t) (ht : t < a.tmps.size) (hv : vs j = .bool b) :
    yielded ops (frameAt a ds vs).tmps j = some b := by
  have hlt : j < ds.length := (List.getElem?_eq_some_iff.1 hj).1
  have hget : ds[j] = t := (List.getElem?_eq_some_iff.1 hj).2
  have hself : ds.idxOf? t = some j := by
    rw [List.idxOf?_eq_some_iff]
    refine ⟨hlt, hget, fun k hk h => ?_⟩
    have := List.pairwise_iff_getElem.1 hn k j (by omega) hlt hk
    exact this (h.trans hget.symm)
  unfold yielded
  rw [ho]
  simp only [Option.bind_some]
  rw [hdst j o ho, hj]
  simp only [Option.bind_some]
  rw [frameAt_get, hself, Array.getElem?_eq_getElem ht]
  simp [hv]
/-- As 'wp_region_frame', with guards. -/
theorem wp_region_frameG {id : Nat} {a : Act} {w : World} (hm : P.follows .mixedOrders = true) (ds : List Nat) (hn : ds.Nodup) (hsz : ∀ t ∈ ds, t < a.tmps.size) (Inv : (Nat → Bool) → (Nat → Value) → World → Prop)
    (hdst : ∀ (i : Nat) (o : Oper), ops[i]? = some o → o.dst = ds[i]?)
    (hg : ∀ L vs w, Inv L vs w → ∀ (i : Nat) (o : Oper) (j : Nat) (b : Bool), ops[i]? = some o → o.guard = some (j, b) → L i = false → (∀ e ∈ o.after, Region.binds .any e = true → L e.on = true) → j < ds.length ∧ j < ops.size ∧ vs j = .bool b)
    (hback : ∀ (i : Nat) (o : Oper), ops[i]? = some o → ∀ e ∈ o.after, e.on < i)
    (h0 : Inv (fun _ => false) (fun i => a.tmps.getD (ds.getD i 0) undef) w.drew)
    (hstep : ∀ L vs w, Inv L vs w → ∀ i o, ops[i]? = some o → L i = false → (∀ e ∈ o.after, Region.binds .any e = true → L e.on = true) →
      ∀ K : Act → World → Prop, (∀ v w', Inv (fun j => L j || (j == i)) (fun j => if j = i then v else vs j) w' → K ((frameAt a ds vs).put o.dst v) w') → o.wp P (frameAt a ds vs) w K Q)
    (hend : ∀ L vs w, Inv L vs w → (∀ i, i < ops.size → L i = true) → Q .normal (frameAt a ds vs) w) : (Code.region id ops true).wp P Q a w := by
  have h := wp_region_valsG (P := P) (ops := ops) (Q := Q) (id := id) hm (frameAt a ds) (fun i => a.tmps.getD (ds.getD i 0) undef) w Inv (fun vs i v o ho => ?_) (fun L vs w hI i o ho hL haf => ?_) h0 hstep hend hback
  · rw [frameAt_self] at h
    exact h
  · rw [hdst i o ho]
    cases hd : ds[i]? with
    | some t => exact frameAt_put a ds vs t i v hn hd
    | none =>
      show frameAt a ds vs = _
      have hle : ds.length ≤ i := by simpa using hd
      unfold frameAt
      congr 2
      have : ∀ (l : List Value) (t : Nat), mapI ds vs t l = mapI ds (fun j => if j = i then v else vs j) t l := by
        intro l
        induction l with
        | nil => intro t; rfl
        | cons x xs ih =>
          intro t
          rw [mapI, mapI, ih]
          congr 1
          cases hc : ds.idxOf? t with
          | none => rfl
          | some j =>
            rw [List.idxOf?_eq_some_iff] at hc
            obtain ⟨h1, _, _⟩ := hc
            simp only
            rw [if_neg (by omega)]
      exact this _ _
  · unfold Region.wanted
    cases hgd : o.guard with
    | none => rfl
    | some jb =>
      obtain ⟨j, b⟩ := jb
      obtain ⟨h1, h2, h3⟩ := hg L vs w hI i o j b ho hgd hL haf
      have hj : ds[j]? = some ds[j] := List.getElem?_eq_getElem h1
      simp only
      rw [yielded_frame hn hdst j b ds[j] ops[j] (Array.getElem?_eq_getElem h2) hj (hsz _ (List.getElem_mem h1)) h3]
      simp

/-- The same frame, as puts. -/
def putAll (vs : Nat → Value) : Act → List Nat → Nat → Act
  | a, [], _ => a
  | a, t :: ts, i => putAll vs (a.put (some t) (vs i)) ts (i + 1)
theorem putAll_get (vs : Nat → Value) : ∀ (ts : List Nat) (a : Act) (i k : Nat), ts.Nodup → (putAll vs a ts i).tmps[k]? = (a.tmps[k]?).map fun x => match ts.idxOf? k with | some j => vs (i + j) | none => x
  | [], a, i, k, _ => by simp [putAll]
  | t :: ts, a, i, k, hn => by
    obtain ⟨h1, h2⟩ := List.nodup_cons.1 hn
    rw [putAll, putAll_get vs ts _ (i + 1) k h2]
    show ((a.tmps.setIfInBounds t (vs i))[k]?).map _ = _
    rw [Array.getElem?_setIfInBounds, List.idxOf?_cons]
    by_cases hk : t = k
    · subst hk
      have hx : ts.idxOf? t = none := by rw [List.idxOf?_eq_none_iff]; exact h1
      rw [if_pos rfl, hx]
      by_cases ht : t < a.tmps.size
      · simp [ht]
      · simp [ht]
    · rw [if_neg hk]
      have hb : (t == k) = false := by simpa using hk
      simp only [hb]
      cases ts.idxOf? k with
      | none => simp
      | some j => simp [Nat.add_comm, Nat.add_left_comm]
theorem putAll_defers (vs : Nat → Value) : ∀ (ts : List Nat) (a : Act) (i : Nat), (putAll vs a ts i).defers = a.defers
  | [], _, _ => rfl
  | t :: ts, a, i => by rw [putAll, putAll_defers vs ts]; rfl
theorem frameAt_putAll (a : Act) (ds : List Nat) (hn : ds.Nodup) (vs : Nat → Value) : frameAt a ds vs = putAll vs a ds 0 := by
  have hE : ∀ a b : Act, a.tmps = b.tmps → a.defers = b.defers → a = b := by
    intro a b h1 h2
    cases a; cases b
    simp_all
  refine hE _ _ (Array.ext_getElem? fun k => ?_) ?_
  · rw [frameAt_get, putAll_get vs ds a 0 k hn]
    simp only [Nat.zero_add]
  · rw [putAll_defers]; rfl
theorem wp_name {c : Code} {a0 : Act} {w : World} (h : ∀ a, a = a0 → c.wp P Q a w) : c.wp P Q a0 w := h a0 rfl
end
end Go.Proofs.Ytmpbofmhjjgccaa
