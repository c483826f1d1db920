/-
  A region that draws its order: whatever the order, it comes to what it comes to in one that is told: first what only reads (and what only counts), then what changes.
-/
import Derived.Test.YtmpbofmhjjgccaaAwK
namespace Go.Proofs.Ytmpbofmhjjgccaa
open Go.RowKit
set_option linter.unusedVariables false
set_option linter.unusedSimpArgs false

/-- With further variables and lists. -/
def St.ext (σ e : St) : St := ⟨fun b => (σ.box b).or (e.box b), fun b => (σ.tip b).or (e.tip b)⟩
theorem St.ext_of {σ τ : St} (h : σ.le τ) : σ.ext τ = τ := by
  unfold St.ext
  obtain ⟨tb, tt⟩ := τ
  congr 1
  · funext b
    cases hb : σ.box b with
    | none => rfl
    | some x => exact (h.box b x hb).symm
  · funext b
    cases hb : σ.tip b with
    | none => rfl
    | some x => exact (h.tip b x hb).symm
theorem box_ext (σ e : St) (b : Nat) : (σ.ext e).box b = (σ.box b).or (e.box b) := rfl
theorem tip_ext (σ e : St) (b : Nat) : (σ.ext e).tip b = (σ.tip b).or (e.tip b) := rfl

section
variable (P : Program) (n : Nat) (ops : Array Oper)
def wr (t : Nat) : Option Nat := ops.toList.findIdx? (fun o => o.dst == some t)
def dep (i j : Nat) : Bool := match ops[i]? with | some o => o.after.toList.any (fun e => e.on == j && Region.binds .any e) | none => false
def anc : Nat → Nat → Nat → Bool
  | 0, _, _ => false
  | k + 1, i, j => dep ops i j || (List.range ops.size).any fun m => dep ops i m && anc k m j
def tmpsOf (o : Oper) : List Nat := o.op.operands.toList.filterMap fun | .tmp t => some t | _ => none
def dstOf (i : Nat) : Option Nat := (ops[i]?).bind (·.dst)
/-- Does an operation see what the ones that are seen left, and of the others what was there? -/
def chkI (seen : List Nat) (i : Nat) : Bool :=
  match ops[i]? with
  | some o => (tmpsOf o).all (fun t => match wr ops t with | none => true | some j => if seen.contains j then dep ops i j else dep ops j i) && (match o.guard with | none => true | some (j, _) => seen.contains j && dep ops i j)
  | none => false
def chkQ : List Nat → List (Nat × Bool) → Bool
  | _, [] => true
  | seen, (i, _) :: r => chkI ops seen i && chkQ (i :: seen) r
def chkT (behind : List Nat) : List Nat → List Nat → Bool
  | _, [] => true
  | seen, i :: r => chkI ops seen i && (match ops[i]? with | some o => o.guard.isNone | none => false) && behind.all (fun j => anc ops ops.size i j) && chkT (i :: behind) (i :: seen) r
def chk (q : List (Nat × Bool)) (al : Option Nat) (tl : List Nat) : Bool :=
  (List.range ops.size).all (fun i => match dstOf ops i with | some t => wr ops t == some i | none => true) &&
  (List.range ops.size).all (fun i => match ops[i]? with | some o => o.after.toList.all (fun e => !Region.binds .any e || decide (e.on < i)) | none => false) &&
  (List.range ops.size).all (fun i => (q.map (·.1)).contains i || al.toList.contains i || tl.contains i) &&
  decide ((q.map (·.1) ++ al.toList ++ tl).Nodup) &&
  chkQ ops [] q &&
  al.toList.all (fun i => chkI ops [] i && (match ops[i]? with | some o => o.guard.isNone | none => false)) &&
  chkT ops ((q.filter (fun x => !x.2)).map (·.1) ++ al.toList) (al.toList ++ q.map (·.1)) tl

/-- What is owed at an operation that changes nothing. -/
def obl (σ : St) (pu : Bool) (o : Oper) (F : Fr) (d : D) : Prop := ∀ τ : St, (pu = true ∨ σ.le τ) → aop P o.type F τ (fun d' τ' => D.Le d' d ∧ τ.le τ') o.op
def dqv (σ : St) (pu : Bool) (o : Oper) (F : Fr) (d : D) : Prop :=
  match o.guard with
  | none => obl P σ pu o F d
  | some (j, b) => ∃ t p, dstOf ops j = some t ∧ F t = .v (.bool p) ∧ (p = b → obl P σ pu o F d) ∧ (p = !b → d = .any)
def fstep (dv : Nat → D) (i : Nat) (F : Fr) : Fr := match dstOf ops i with | some t => upd F t (dv i) | none => F
def dq (σ : St) (K : Fr → Prop) : List (Nat × Bool) → Fr → Prop
  | [], F => K F
  | (i, pu) :: r, F => wo ops[i]? fun o => ∃ d, dqv P ops σ pu o F d ∧ aput n F o.dst d (dq σ K r)
def dqs (σ : St) (dv : Nat → D) : List (Nat × Bool) → Fr → Prop
  | [], _ => True
  | (i, pu) :: r, F => (∃ o, ops[i]? = some o ∧ dqv P ops σ pu o F (dv i) ∧ ∀ t, o.dst = some t → t < n) ∧ dqs σ dv r (fstep ops dv i F)
def fset (dv : Nat → D) : List (Nat × Bool) → Fr → Fr
  | [], F => F
  | (i, _) :: r, F => fset dv r (fstep ops dv i F)
def opersOf (tl : List Nat) : List Oper := tl.filterMap (ops[·]?)
def dtail (σ : St) (al : Option Nat) (tl : List Nat) (K : Fr → St → Prop) (F : Fr) : Prop :=
  match al with
  | none => aops P n ops K (opersOf ops tl) F σ
  | some i => wo ops[i]? fun o => match o.op, o.dst with
    | .alloc T, some t => t < n ∧ wo (layOf P T) fun l => ∀ b, Fresh σ b → aops P n ops K (opersOf ops tl) (upd F t (.v (.pointer (some ⟨b, 0, none⟩)))) (σ.setBox b (some (T, l.zero.map .v)))
    | _, _ => False
end

section
variable {P : Program} {n : Nat} {ops : Array Oper} {σ : St}
theorem dqs_congr {dv dv' : Nat → D} : ∀ (q : List (Nat × Bool)) (F : Fr), (∀ x ∈ q, dv x.1 = dv' x.1) → dqs P n ops σ dv q F → dqs P n ops σ dv' q F ∧ fset ops dv q F = fset ops dv' q F
  | [], F, _, _ => ⟨trivial, rfl⟩
  | (i, pu) :: r, F, he, ⟨⟨o, h1, h2, h3⟩, h4⟩ => by
    have hi : dv i = dv' i := he (i, pu) (by simp)
    have hs : fstep ops dv i F = fstep ops dv' i F := by unfold fstep; rw [hi]
    rw [hs] at h4
    obtain ⟨h5, h6⟩ := dqs_congr r _ (fun x hx => he x (by simp [hx])) h4
    refine ⟨⟨⟨o, h1, hi ▸ h2, h3⟩, h5⟩, ?_⟩
    show fset ops dv r (fstep ops dv i F) = fset ops dv' r (fstep ops dv' i F)
    rw [hs]
    exact h6
theorem dq_inv {K : Fr → Prop} : ∀ (q : List (Nat × Bool)) (F : Fr), (q.map (·.1)).Nodup → dq P n ops σ K q F → ∃ dv : Nat → D, dqs P n ops σ dv q F ∧ K (fset ops dv q F)
  | [], F, _, h => ⟨fun _ => .any, trivial, h⟩
  | (i, pu) :: r, F, hn, h => by
    simp only [dq] at h
    obtain ⟨o, ho, d, h1, h2⟩ := wo_inv h
    have hni : i ∉ r.map (·.1) := by simpa using (List.nodup_cons.1 hn).1
    have hlt : ∀ t, o.dst = some t → t < n := by
      intro t ht
      rw [ht] at h2
      exact h2.1
    have hst : dq P n ops σ K r (fstep ops (fun _ => d) i F) := by
      unfold fstep dstOf
      rw [ho]
      simp only [Option.bind_some]
      cases hd : o.dst with
      | none => rw [hd] at h2; exact h2
      | some t => rw [hd] at h2; exact h2.2
    obtain ⟨dv, h3, h4⟩ := dq_inv r _ (List.nodup_cons.1 hn).2 hst
    have e1 : ∀ x ∈ r, dv x.1 = (fun k => if k = i then d else dv k) x.1 := fun x hx => by
      have : x.1 ≠ i := by rintro rfl; exact hni (List.mem_map.2 ⟨x, hx, rfl⟩)
      simp [this]
    obtain ⟨h5, h6⟩ := dqs_congr (dv := dv) (dv' := fun k => if k = i then d else dv k) r _ e1 h3
    have es : fstep ops (fun k => if k = i then d else dv k) i F = fstep ops (fun _ => d) i F := by unfold fstep; simp
    refine ⟨fun k => if k = i then d else dv k, ⟨⟨o, ho, by simpa using h1, hlt⟩, by rw [es]; exact h5⟩, ?_⟩
    show K (fset ops _ r (fstep ops _ i F))
    rw [es, ← h6]
    exact h4
/-- What a slot holds, by which operations are done. -/
def slotOf (ops : Array Oper) (F0 : Fr) (val : Nat → D) (E : Nat → Bool) (t : Nat) : D :=
  match wr ops t with
  | none => F0 t
  | some j => if E j then val j else F0 t
theorem wr_dst {t j : Nat} (h : wr ops t = some j) : dstOf ops j = some t := by
  unfold wr at h
  obtain ⟨h1, h2, _⟩ := List.findIdx?_eq_some_iff_getElem.1 h
  unfold dstOf
  have : ops[j]? = some ops.toList[j] := by rw [← Array.getElem?_toList, List.getElem?_eq_getElem h1]
  rw [this]
  simpa using h2
structure ChkW (ops : Array Oper) : Prop where
  uniq : ∀ i t, dstOf ops i = some t → wr ops t = some i
theorem slot_put {F0 : Fr} {val : Nat → D} {E : Nat → Bool} (hu : ChkW ops) {i : Nat} {t0 : Nat} (hi : dstOf ops i = some t0) (hE : E i = false) (d : D) (t : Nat) :
    slotOf ops F0 (fun k => if k = i then d else val k) (fun k => E k || k == i) t = if t = t0 then d else slotOf ops F0 val E t := by
  unfold slotOf
  by_cases e : t = t0
  · subst e
    rw [hu.uniq i t hi]
    simp
  · rw [if_neg e]
    cases hw : wr ops t with
    | none => rfl
    | some j =>
      have hj : j ≠ i := by
        rintro rfl
        have := wr_dst hw
        rw [hi] at this
        injection this with this
        exact e this.symm
      simp [hj]
theorem slot_none {F0 : Fr} {val : Nat → D} {E : Nat → Bool} {i : Nat} (hi : dstOf ops i = none) (d : D) (t : Nat) :
    slotOf ops F0 (fun k => if k = i then d else val k) (fun k => E k || k == i) t = slotOf ops F0 val E t := by
  unfold slotOf
  cases hw : wr ops t with
  | none => rfl
  | some j =>
    have hj : j ≠ i := by
      rintro rfl
      have := wr_dst hw
      rw [hi] at this
      cases this
    simp [hj]
/-- At an operation's turn: what it sees in the order that is told is what there is. -/
theorem sees {F0 : Fr} {dv val : Nat → D} {E : Nat → Bool} {i : Nat} {seen : List Nat} {F : Fr} {o : Oper} (ho : ops[i]? = some o) (hc : chkI ops seen i = true) (hF : ∀ t, F t = slotOf ops F0 dv (fun j => seen.contains j) t) (hv : ∀ j, seen.contains j = true → E j = true → val j = dv j) (hsh : ∀ k j, E k = true → dep ops k j = true → E j = true) (hi : E i = false) (hdep : ∀ j, dep ops i j = true → E j = true) :
    ∀ x ∈ o.op.operands.toList, ev F x = ev (slotOf ops F0 val E) x := by
  unfold chkI at hc
  rw [ho] at hc
  simp only [Bool.and_eq_true, List.all_eq_true] at hc
  intro x hx
  cases x with
  | tmp t =>
    have ht : t ∈ tmpsOf o := List.mem_filterMap.2 ⟨.tmp t, hx, rfl⟩
    have h1 := hc.1 t ht
    show F t = slotOf ops F0 val E t
    rw [hF t]
    unfold slotOf
    cases hw : wr ops t with
    | none => rfl
    | some j =>
      rw [hw] at h1
      simp only at h1 ⊢
      by_cases hj : seen.contains j = true
      · rw [if_pos hj] at h1
        rw [if_pos hj, if_pos (hdep j h1), hv j hj (hdep j h1)]
      · rw [if_neg hj] at h1
        rw [if_neg hj]
        have : E j = false := by
          cases hE : E j with
          | false => rfl
          | true => rw [hsh j i hE h1] at hi; cases hi
        rw [if_neg (by simp [this])]
  | const v => rfl
  | global g => rfl
  | func f => rfl
theorem fstep_slot {F0 : Fr} {dv : Nat → D} (hu : ChkW ops) {k : Nat} {seen : List Nat} {F : Fr} (hks : k ∉ seen) (hF : ∀ t, F t = slotOf ops F0 dv (fun j => seen.contains j) t) (t : Nat) : fstep ops dv k F t = slotOf ops F0 dv (fun j => (k :: seen).contains j) t := by
  have hks' : (fun j => seen.contains j) k = false := by simpa using hks
  have e : (fun j => (k :: seen).contains j) = fun j => (fun j => seen.contains j) j || j == k := by
    funext j
    simp only [List.contains_cons]
    rw [Bool.or_comm]
  have ev : dv = fun m => if m = k then dv k else dv m := by funext m; by_cases hm : m = k <;> simp [hm]
  rw [e]
  unfold fstep
  cases hd : dstOf ops k with
  | none =>
    have := slot_none (F0 := F0) (val := dv) (E := fun j => seen.contains j) hd (dv k) t
    rw [← ev] at this
    rw [this]
    exact hF t
  | some t0 =>
    have := slot_put (F0 := F0) (val := dv) (E := fun j => seen.contains j) hu hd hks' (dv k) t
    rw [← ev] at this
    rw [this]
    simp only [upd]
    split
    · rfl
    · exact hF t
theorem slot_congr {F0 : Fr} {val val' : Nat → D} {E E' : Nat → Bool} (h : ∀ j, j < ops.size → E j = E' j ∧ (E j = true → val j = val' j)) (t : Nat) : slotOf ops F0 val E t = slotOf ops F0 val' E' t := by
  unfold slotOf
  cases hw : wr ops t with
  | none => rfl
  | some j =>
    have hj : j < ops.size := by
      unfold wr at hw
      have := (List.findIdx?_eq_some_iff_getElem.1 hw).1
      simpa using this
    obtain ⟨h1, h2⟩ := h j hj
    simp only [← h1]
    by_cases hE : E j = true
    · rw [if_pos hE, if_pos hE, h2 hE]
    · rw [if_neg hE, if_neg hE]
theorem fset_slot {F0 : Fr} {dv : Nat → D} (hu : ChkW ops) : ∀ (q : List (Nat × Bool)) (seen : List Nat) (F : Fr), (∀ x ∈ q, x.1 ∉ seen) → (q.map (·.1)).Nodup → (∀ t, F t = slotOf ops F0 dv (fun j => seen.contains j) t) → ∀ t, fset ops dv q F t = slotOf ops F0 dv (fun j => seen.contains j || (q.map (·.1)).contains j) t
  | [], seen, F, _, _, hF, t => by
    rw [show fset ops dv [] F t = F t from rfl, hF t]
    refine slot_congr (fun j _ => ⟨by simp, fun _ => rfl⟩) t
  | (k, pk) :: r, seen, F, hs, hn, hF, t => by
    have hn' := List.nodup_cons.1 hn
    have h1 := fset_slot hu r (k :: seen) (fstep ops dv k F) (fun x hx => by
        intro hxs
        rcases List.mem_cons.1 hxs with e | hxs
        · exact hn'.1 (List.mem_map.2 ⟨x, hx, e⟩)
        · exact hs x (by simp [hx]) hxs) hn'.2 (fun t => fstep_slot hu (by simpa using hs (k, pk) (by simp)) hF t) t
    rw [show fset ops dv ((k, pk) :: r) F t = fset ops dv r (fstep ops dv k F) t from rfl, h1]
    refine slot_congr (fun j _ => ⟨?_, fun _ => rfl⟩) t
    simp only [List.contains_cons, List.map_cons]
    cases (j == k) <;> cases (seen.contains j) <;> simp
theorem chkT_at {i : Nat} : ∀ (tl : List Nat) (b s : List Nat) (k : Nat) (r : List Nat), chkT ops b s tl = true → tl.drop k = i :: r →
    ∃ (b' s' : List Nat), (∀ j ∈ b, j ∈ b') ∧ (∀ j ∈ tl.take k, j ∈ b') ∧ (∀ j, j ∈ s' ↔ j ∈ s ∨ j ∈ tl.take k) ∧ chkI ops s' i = true ∧ (∃ o, ops[i]? = some o ∧ o.guard = none) ∧ ∀ j ∈ b', anc ops ops.size i j = true
  | [], b, s, k, r, h, hd => by simp at hd
  | x :: tl, b, s, 0, r, h, hd => by
    simp at hd
    obtain ⟨rfl, rfl⟩ := hd
    simp only [chkT, Bool.and_eq_true, List.all_eq_true] at h
    obtain ⟨⟨⟨h1, h2⟩, h3⟩, h4⟩ := h
    refine ⟨b, s, fun j hj => hj, by simp, by simp, h1, ?_, h3⟩
    cases ho : ops[x]? with
    | none => rw [ho] at h2; simp at h2
    | some o => rw [ho] at h2; exact ⟨o, rfl, by simpa using h2⟩
  | x :: tl, b, s, k + 1, r, h, hd => by
    simp only [chkT, Bool.and_eq_true] at h
    obtain ⟨b', s', h1, h2, h3, h4⟩ := chkT_at tl (x :: b) (x :: s) k r h.2 (by simpa using hd)
    refine ⟨b', s', fun j hj => h1 j (by simp [hj]), fun j hj => ?_, fun j => ?_, h4⟩
    · rw [List.take_succ_cons] at hj
      rcases List.mem_cons.1 hj with rfl | hj
      · exact h1 j (by simp)
      · exact h2 j hj
    · rw [h3 j, List.take_succ_cons]
      simp only [List.mem_cons]
      constructor
      · rintro ((h | h) | h)
        · exact .inr (.inl h)
        · exact .inl h
        · exact .inr (.inr h)
      · rintro (h | h | h)
        · exact .inl (.inr h)
        · exact .inl (.inl h)
        · exact .inr h
theorem anc_in {E : Nat → Bool} (hsh : ∀ k j, E k = true → dep ops k j = true → E j = true) : ∀ (m i j : Nat), (∀ j, dep ops i j = true → E j = true) → anc ops m i j = true → E j = true
  | 0, i, j, _, h => by simp [anc] at h
  | m + 1, i, j, hd, h => by
    simp only [anc, Bool.or_eq_true, List.any_eq_true, Bool.and_eq_true] at h
    rcases h with h | ⟨k, _, h1, h2⟩
    · exact hd j h
    · exact anc_in hsh m k j (fun j' hj' => hsh k j' (hd k h1) hj') h2
/-- To an operation in the order that is told. -/
theorem dqs_at {F0 : Fr} {dv : Nat → D} (hu : ChkW ops) {i : Nat} {pu : Bool} : ∀ (q : List (Nat × Bool)) (seen : List Nat) (F : Fr), (∀ x ∈ q, x.1 ∉ seen) → (q.map (·.1)).Nodup → (∀ t, F t = slotOf ops F0 dv (fun j => seen.contains j) t) → dqs P n ops σ dv q F → chkQ ops seen q = true → (i, pu) ∈ q →
    ∃ F' seen' o, ops[i]? = some o ∧ dqv P ops σ pu o F' (dv i) ∧ (∀ t, o.dst = some t → t < n) ∧ (∀ t, F' t = slotOf ops F0 dv (fun j => seen'.contains j) t) ∧ chkI ops seen' i = true ∧ (∀ j ∈ seen', j ∈ seen ∨ j ∈ q.map (·.1))
  | [], seen, F, hs, hn, hF, h, hc, hm => by cases hm
  | (k, pk) :: r, seen, F, hs, hn, hF, ⟨⟨o, h1, h2, h3⟩, h4⟩, hc, hm => by
    simp only [chkQ, Bool.and_eq_true] at hc
    rcases List.mem_cons.1 hm with e | hm
    · injection e with e1 e2
      subst e1; subst e2
      exact ⟨F, seen, o, h1, h2, h3, hF, hc.1, fun j hj => .inl hj⟩
    · have hF' := fun t => fstep_slot hu (by simpa using hs (k, pk) (by simp)) hF t
      have hn' := List.nodup_cons.1 hn
      obtain ⟨F', seen', o', g1, g2, g3, g4, g5, g6⟩ := dqs_at hu r (k :: seen) _ (fun x hx => by
        intro hxs
        rcases List.mem_cons.1 hxs with e | hxs
        · exact hn'.1 (List.mem_map.2 ⟨x, hx, e⟩)
        · exact hs x (by simp [hx]) hxs) hn'.2 hF' h4 hc.2 hm
      refine ⟨F', seen', o', g1, g2, g3, g4, g5, fun j hj => ?_⟩
      rcases g6 j hj with h | h
      · rcases List.mem_cons.1 h with rfl | h
        · exact .inr (by simp)
        · exact .inl h
      · exact .inr (by simp [h])
end
end Go.Proofs.Ytmpbofmhjjgccaa
