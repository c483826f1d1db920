/- Part 4 of the proof of CardSearchFinds: Lj Lk Ll Lm. -/
import Derived.Test.YtmpbofmhjjgccaaDoorSf3
import Derived.Deep.LoopGhost
/-
  Operations as they are reasoned about: calls, panics; all of them; code; functions.
-/
namespace Go.Proofs.YtmpbofmhjjgccaaDoor
open Go.RowKit
set_option linter.unusedVariables false
set_option linter.unusedSimpArgs false

section
variable {P : Program} {o : Oper} {a : Act} {F : Fr} {σ : St} {K : D → St → Prop} {n : Nat} {df : List Deferred} {E : Value → St → Prop} {base w : World} {G : Gh} {next : Act → World → Prop} {Q : Exit → Act → World → Prop}
/-- What is owed behind a panic. -/
def Pan (base : World) (G : Gh) (a : Act) (E : Value → St → Prop) (Q : Exit → Act → World → Prop) : Prop :=
  ∀ v w' G' σ', G.le G' → Sim base w' G' σ' → E v σ' → Q (.panic [{ v := v, recovered := false }]) a w'
theorem snd_fn {f : FuncId} {args : Array Value} {ds : List D} (hrun : (execOp a.eval o).run P w = .ok (.enter f args) w) (hS : Sim base w G σ) (hA : RepL G args.toList ds) (h : TriX P f ds σ (outK K E)) (hK : Nxt base G a o.dst K next) (hE : Pan base G a E Q) : o.wp P a w next Q := by
  unfold Oper.wp
  rw [hrun, Oper.upon_enter]
  have := h base w G args.toList hS hA
  rw [Array.toArray_toList] at this
  refine this.mono fun ev w' hh => ?_
  obtain ⟨σ', G', h1, h2, ⟨v, d, rfl, h3, h4⟩ | ⟨v, rfl, h4⟩⟩ := hh
  · exact hK v w' G' d σ' h1 h2 h3 h4
  · exact hE v w' G' σ' h1 h2 h4
theorem snd_panic {x : Operand} (ho : o.op = .panic x) (h : aop P o.type F σ K E (.panic x)) (hS : Sim base w G σ) (hF : FrRep G a n df F) (hE : Pan base G a E Q) : o.wp P a w next Q := by
  have hev := hF.ev x
  have fin : ∀ t v, a.eval x = .iface t v → E (.iface t v) σ → o.wp P a w next Q := fun t v hx he => by
    unfold Oper.wp
    have hrun : (execOp a.eval o).run P w = .halt (.panic (.iface t v)) w := by
      unfold execOp
      simp [ho, hx, Instr.panic, goPanic, Sem.run]
    rw [hrun, Oper.upon_panic]
    exact hE _ w G σ G.le_refl hS he
  simp only [aop] at h
  split at h
  · rename_i t v hx
    rw [hx] at hev
    generalize hy : a.eval x = y at hev
    cases hev with
    | iface _ u _ hr =>
      have := hr.v_inv
      subst this
      exact fin t u hy h
  · rename_i t cs hx
    obtain ⟨vs, rfl, h⟩ := h
    rw [hx] at hev
    generalize hy : a.eval x = y at hev
    cases hev with
    | iface _ u _ hr =>
      have := hr.agg_inv
      subst this
      exact fin t _ hy h
  · rename_i t v hx
    rw [hx] at hev
    exact fin t v hev.v_inv h
  · exact h.elim
theorem snd_builtin {b : Builtin} {c : Call} (ho : o.op = .call c) (hc : c.callee = .builtin b) {v : Value} {w' : World} {G' : Gh} {d : D} {σ' : St} (hrun : (builtin b c.argTypes o.type (c.args.map fun | .const _ => true | _ => false) (c.args.map a.eval)).run P w = .ok (.value v) w')
    (h1 : G.le G') (h2 : Sim base w' G' σ') (h3 : Rep G' v d) (h4 : K d σ') (hK : Nxt base G a o.dst K next) : o.wp P a w next Q := by
  refine wp_runI (w' := w') v ?_ (hK v w' G' d σ' h1 h2 h3 h4)
  obtain ⟨callee, args, tys⟩ := c
  simp only at hc
  subst hc
  unfold execOp
  simp only [ho, resolve, Sem.run_bind, Sem.run_pure, Result.andThen_ok, invoke]
  exact hrun
theorem args1 {c : Call} {d : D} (h : c.args.toList.map (ev F) = [d]) : ∃ x, c.args = #[x] ∧ ev F x = d := by
  obtain ⟨x, xs, h1, h2, h3⟩ := List.map_eq_cons_iff.1 h
  have : xs = [] := List.map_eq_nil_iff.1 h3
  subst this
  exact ⟨x, by rw [← Array.toArray_toList (xs := c.args), h1], h2⟩
theorem args2 {c : Call} {d e : D} (h : c.args.toList.map (ev F) = [d, e]) : ∃ x y, c.args = #[x, y] ∧ ev F x = d ∧ ev F y = e := by
  obtain ⟨x, xs, h1, h2, h3⟩ := List.map_eq_cons_iff.1 h
  obtain ⟨y, ys, h4, h5, h6⟩ := List.map_eq_cons_iff.1 h3
  have : ys = [] := List.map_eq_nil_iff.1 h6
  subst this
  exact ⟨x, y, by rw [← Array.toArray_toList (xs := c.args), h1, h4], h2, h5⟩
theorem types1 {c : Call} {t : TypeId} (h : c.argTypes.toList = [t]) : c.argTypes = #[t] := by rw [← Array.toArray_toList (xs := c.argTypes), h]
theorem types2 {c : Call} {t t' : TypeId} (h : c.argTypes.toList = [t, t']) : c.argTypes = #[t, t'] := by rw [← Array.toArray_toList (xs := c.argTypes), h]
theorem Rep.len_of {x : Value} {d : D} {nl : Bool} {tip : Option (Nat × Nat)} {full : Bool} {sz : Nat} {ds : List (List D)} (h : Rep G x d) (hd : d.list = some (nl, tip, full, sz, ds)) : ∃ p c, x = .slice p ds.length c := by
  rcases h.list_inv hd with ⟨_, _, rfl, rfl⟩ | h
  · exact ⟨none, 0, rfl⟩
  · cases h with
    | slice ad c _ _ _ _ vals hs hc hfull hsz hcell hrep htip => exact ⟨_, _, rfl⟩
theorem snd_call {c : Call} (ho : o.op = .call c) (h : aop P o.type F σ K E (.call c)) (hS : Sim base w G σ) (hF : FrRep G a n df F) (hK : Nxt base G a o.dst K next) (hE : Pan base G a E Q) : o.wp P a w next Q := by
  simp only [aop] at h
  split at h
  · rename_i x hc
    have hev := hF.ev x
    obtain ⟨callee, args, tys⟩ := c
    simp only at hc
    subst hc
    have hl := evL hF args.toList
    split at h
    · rename_i f fs cs hx
      rw [hx] at hev
      obtain ⟨rfl, rfl, ⟨fn, hf, hn, hb⟩, h⟩ := h
      refine snd_fn (args := args.map a.eval) ?_ hS (by rw [Array.toList_map]; exact hl) h hK hE
      unfold execOp
      simp [ho, resolve, hev.v_inv, Deferred.ofValue, invoke, run_enterI hf hn hb]
    · rename_i f first caps hx
      rw [hx] at hev
      obtain ⟨⟨fn, hf, hn, hb⟩, h⟩ := h
      generalize hy : a.eval x = y at hev
      cases hev with
      | fn _ us vs _ _ hl1 hrep1 hlen hrep =>
        have h1 : RepL G us first := ⟨hl1, hrep1⟩
        have h2 : RepL G vs caps := ⟨hlen, hrep⟩
        refine snd_fn (args := us.toArray ++ args.map a.eval ++ vs.toArray) ?_ hS ?_ h hK hE
        · unfold execOp
          simp [ho, resolve, hy, Deferred.ofValue, invoke, run_enterI hf hn hb]
        · rw [Array.toList_append, Array.toList_append, Array.toList_map]
          exact (h1.append hl).append h2
    · exact h.elim
  · rename_i b hc
    unfold abuiltin at h
    have len : ∀ (t : TypeId) (d0 : D) (v : Value) (x : Operand) (k : Int), c.argTypes.toList = [t] → c.args = #[x] → (Builtin.len_ #[t] o.type #[a.eval x]).run P w = .ok (.int .i64 k) w → K (.v (.int .i64 k)) σ → b = .len → o.wp P a w next Q := by
      intro t d0 v x k ht hx hr hk hb
      subst hb
      refine snd_builtin ho hc (v := .int .i64 k) ?_ G.le_refl hS (.v _) hk hK
      simp [hx, types1 ht, builtin, hr]
    split at h
    · rename_i t tip full sz ds ht hd
      obtain ⟨hl0, hk⟩ := h
      obtain ⟨e, hd'⟩ := sl_of hl0
      obtain ⟨x, hx, hxd⟩ := args1 hd
      have hev := hF.ev x
      obtain ⟨p, cc, hxv⟩ := hev.len_of (by rw [hxd]; rfl)
      exact len t .any undef x _ ht hx (by simp [Builtin.len_, run_underlying hd', hxv, goInt]) hk rfl
    · rename_i t full sz ds ht hd
      obtain ⟨hl0, hk⟩ := h
      obtain ⟨e, hd'⟩ := sl_of hl0
      obtain ⟨x, hx, hxd⟩ := args1 hd
      have hev := hF.ev x
      obtain ⟨p, cc, hxv⟩ := hev.len_of (by rw [hxd]; rfl)
      exact len t .any undef x _ ht hx (by simp [Builtin.len_, run_underlying hd', hxv, goInt]) hk rfl
    · rename_i t b0 sz cap o0 m ht hd
      obtain ⟨hl0, hk⟩ := h
      obtain ⟨e, hd'⟩ := sl_of hl0
      obtain ⟨x, hx, hxd⟩ := args1 hd
      have hev := hF.ev x
      rw [hxd] at hev
      generalize hy : a.eval x = y at hev
      cases hev with
      | arr _ off c' _ _ _ _ g1 g2 g3 => exact len t .any undef x _ ht hx (by simp [Builtin.len_, run_underlying hd', hy, goInt]) hk rfl
    · rename_i t ht hd
      obtain ⟨hl0, hk⟩ := h
      obtain ⟨e, hd'⟩ := sl_of hl0
      obtain ⟨x, hx, hxd⟩ := args1 hd
      have hev := hF.ev x
      rw [hxd] at hev
      exact len t .any undef x _ ht hx (by simp [Builtin.len_, run_underlying hd', hev.v_inv, goInt]) hk rfl
    · rename_i t s ht hd
      obtain ⟨hl0, hk⟩ := h
      have hd' := str_of hl0
      obtain ⟨x, hx, hxd⟩ := args1 hd
      have hev := hF.ev x
      rw [hxd] at hev
      exact len t .any undef x _ ht hx (by simp [Builtin.len_, run_underlying hd', hev.v_inv, goInt]) hk rfl
    · rename_i t r ht hd
      obtain ⟨hl0, hk⟩ := h
      obtain ⟨l, hl, hkd⟩ := wo_inv hl0
      obtain ⟨ke, hkd⟩ := Option.isSome_iff_exists.1 hkd
      have hd' := map_of (P := P) (t := t) (ke := ke) (by rw [hl]; exact hkd)
      obtain ⟨x, hx, hxd⟩ := args1 hd
      have hev := hF.ev x
      rw [hxd] at hev
      split at hk
      · rename_i es hown
        obtain ⟨_, hn, en, clock, hb, hM⟩ := hS.own r _ hown
        exact len t .any undef x _ ht hx (by simp [Builtin.len_, run_underlying hd', hev.v_inv, MapKept.run_getObj_map hb, goInt, hM.size]) hk rfl
      · exact hk.elim
    · rename_i t t' dx dy ht hd
      obtain ⟨rfl, h⟩ := h
      replace h := wo_inv h
      obtain ⟨l, hl, h⟩ := h
      replace h := wo_inv h
      obtain ⟨e, hkd, h⟩ := h
      replace h := wo_inv h
      obtain ⟨le, hle, h⟩ := h
      replace hkd := Kd.sl_inv hkd
      obtain ⟨x, y, hxy, hxd, hyd⟩ := args2 hd
      have hx := hF.ev x
      have hy := hF.ev y
      rw [hxd] at hx
      rw [hyd] at hy
      obtain ⟨v, w', G', d, σ', hr, h1, h2, h3, h4⟩ := append_sound (ty := o.type) hl hkd hle hS hx hy h
      refine snd_builtin ho hc (v := v) ?_ h1 h2 h3 h4 hK
      simp [hxy, types2 ht, builtin, hr]
    · rename_i k p k' q hd
      obtain ⟨rfl, hk⟩ := h
      obtain ⟨x, y, hxy, hxd, hyd⟩ := args2 hd
      have hx := hF.ev x
      have hy := hF.ev y
      rw [hxd] at hx
      rw [hyd] at hy
      refine snd_builtin ho hc (v := .int k (max p q)) ?_ G.le_refl hS (.v _) hk hK
      have e : (if q > p then q else p) = max p q := by split <;> omega
      simp [hxy, builtin, Builtin.max_, Builtin.max2, hx.v_inv, hy.v_inv, e]
    · rename_i k p k' q hd
      obtain ⟨rfl, hk⟩ := h
      obtain ⟨x, y, hxy, hxd, hyd⟩ := args2 hd
      have hx := hF.ev x
      have hy := hF.ev y
      rw [hxd] at hx
      rw [hyd] at hy
      refine snd_builtin ho hc (v := .int k (min p q)) ?_ G.le_refl hS (.v _) hk hK
      have e : (if q < p then q else p) = min p q := by split <;> omega
      simp [hxy, builtin, Builtin.min_, Builtin.min2, hx.v_inv, hy.v_inv, e]
    · exact h.elim
  · exact h.elim
/-- Each operation does what is reasoned. -/
theorem aop_sound (h : aop P o.type F σ K E o.op) (hS : Sim base w G σ) (hF : FrRep G a n df F) (hK : Nxt base G a o.dst K next) (hE : Pan base G a E Q) : o.wp P a w next Q := by
  cases ho : o.op with
  | move x => rw [ho] at h; exact snd_move ho h hS hF hK
  | assign x => rw [ho] at h; exact snd_assign ho h hS hF hK
  | pick c x y => rw [ho] at h; exact snd_pick ho h hS hF hK
  | alloc t => rw [ho] at h; exact snd_alloc ho h hS hF hK
  | box t x => rw [ho] at h; exact snd_box ho h hS hF hK
  | build t ps => rw [ho] at h; exact snd_build ho h hS hF hK
  | buildSlice t m ps => rw [ho] at h; exact snd_buildSlice ho h hS hF hK
  | load t x => rw [ho] at h; exact snd_load ho h hS hF hK
  | store t x y => rw [ho] at h; exact snd_store ho h hS hF hK
  | nilCheck x => rw [ho] at h; exact snd_nilCheck ho h hS hF hK
  | binOp op t x y ty => rw [ho] at h; exact snd_bin ho h hS hF hK
  | unOp op t x => rw [ho] at h; exact snd_un ho h hS hF hK
  | convert s t x => rw [ho] at h; exact snd_convert ho h hS hF hK
  | makeInterface t x => rw [ho] at h; exact snd_iface ho h hS hF hK
  | makeFunc fn first caps => rw [ho] at h; exact snd_makeFunc ho h hS hF hK
  | makeMap t r => rw [ho] at h; exact snd_makeMap ho h hS hF hK
  | makeSlice t x y => rw [ho] at h; exact snd_makeSlice ho h hS hF hK
  | slice t x lo hi mx => rw [ho] at h; exact snd_slice ho h hS hF hK
  | fieldAddr s x f => rw [ho] at h; exact snd_fieldAddr ho h hS hF hK
  | field s x f => rw [ho] at h; exact snd_field ho h hS hF hK
  | indexAddr t x ix => rw [ho] at h; exact snd_indexAddr ho h hS hF hK
  | index t x ix => rw [ho] at h; exact snd_index ho h hS hF hK
  | lookup t x ix ok => rw [ho] at h; exact snd_lookup ho h hS hF hK
  | mapUpdate t x k y => rw [ho] at h; exact snd_mapUpdate ho h hS hF hK
  | mapEntry t x k => rw [ho] at h; exact snd_mapEntry ho h hS hF hK
  | entryStore t x k y => rw [ho] at h; exact snd_entryStore ho h hS hF hK
  | typeAssert x s t ok => rw [ho] at h; exact snd_typeAssert ho h hS hF hK
  | extract x k => rw [ho] at h; exact snd_extract ho h hS hF hK
  | panic x => rw [ho] at h; exact snd_panic ho h hS hF hE
  | call c => rw [ho] at h; exact snd_call ho h hS hF hK hE
  | _ => rw [ho] at h; exact h.elim
end

def aput (n : Nat) (F : Fr) (dst : Option Tmp) (d : D) (K : Fr → Prop) : Prop :=
  match dst with
  | none => K F
  | some t => t < n ∧ K (upd F t d)
/-- Operations one behind the other. -/
def aops (P : Program) (n : Nat) (ops : Array Oper) (K : Fr → St → Prop) (E : Value → Fr → St → Prop) : List Oper → Fr → St → Prop
  | [], F, σ => K F σ
  | o :: rest, F, σ =>
    match o.guard with
    | none => aop P o.type F σ (fun d σ' => aput n F o.dst d fun F' => aops P n ops K E rest F' σ') (fun v σ' => E v F σ') o.op
    | some (j, b) => match (ops[j]?).bind (·.dst) with
      | some t => match F t with
        | .v (.bool p) => (p = b → aop P o.type F σ (fun d σ' => aput n F o.dst d fun F' => aops P n ops K E rest F' σ') (fun v σ' => E v F σ') o.op) ∧ (p = !b → aput n F o.dst (.v (.tuple #[])) fun F' => aops P n ops K E rest F' σ)
        | .v (.tuple _) => aput n F o.dst (.v (.tuple #[])) fun F' => aops P n ops K E rest F' σ
        | _ => False
      | none => False
inductive AEx where
  | normal | exit (id : Nat) | ret | pan (v : Value)
def AEx.conc : AEx → Exit
  | .normal => .normal
  | .exit id => .exit id
  | .ret => .ret
  | .pan v => .panic [{ v := v, recovered := false }]
/-- What is owed at a region that draws its order: what it comes to in any. -/
def adraw (P : Program) (n : Nat) (ops : Array Oper) (K : Fr → St → Prop) (E : Value → St → Prop) (F : Fr) (σ : St) : Prop :=
  ∀ (base w : World) (G : Gh) (a : Act) (df : List Deferred) (Q : Exit → Act → World → Prop) (id : Nat), Sim base w G σ → FrRep G a n df F → (∀ a' w' G' F' σ', G.le G' → Sim base w' G' σ' → FrRep G' a' n df F' → K F' σ' → Q .normal a' w') →
    (∀ v a' w' G' F' σ', G.le G' → Sim base w' G' σ' → FrRep G' a' n df F' → E v σ' → Q (.panic [{ v := v, recovered := false }]) a' w') → (Code.region id ops true).wp P Q a w
def aseq (K : Fr → St → Prop) (K' : AEx → Fr → St → Prop) : AEx → Fr → St → Prop
  | .normal => K
  | e => K' e
def ablock (id : Nat) (K : AEx → Fr → St → Prop) : AEx → Fr → St → Prop
  | .exit j => fun F σ => if j = id then K .normal F σ else K (.exit j) F σ
  | e => K e
def FLe (F F' : Fr) : Prop := ∀ t, D.Le (F t) (F' t)
theorem FLe.refl (F : Fr) : FLe F F := fun t => .refl _
theorem FrRep.le {G : Gh} {a : Act} {n : Nat} {df : List Deferred} {F F' : Fr} (h : FrRep G a n df F) (hl : FLe F F') : FrRep G a n df F' := ⟨h.size, h.defers, fun t => (h.rep t).le (hl t)⟩
/-- Looked at anew: with less that is known, or what is one's own kept as it is. -/
def Wk (n : Nat) (I : Fr → St → Prop) (F : Fr) (σ : St) : Prop :=
  ∀ (base w : World) (G : Gh) (a : Act) (df : List Deferred), Sim base w G σ → FrRep G a n df F → ∃ F' τ G', G.le G' ∧ Sim base w G' τ ∧ FrRep G' a n df F' ∧ I F' τ
section
variable {n : Nat} {I J : Fr → St → Prop} {F : Fr} {σ : St}
theorem Wk.same (h : I F σ) : Wk n I F σ := fun base w G a df hS hF => ⟨F, σ, G, G.le_refl, hS, hF, h⟩
theorem Wk.mono (h : Wk n I F σ) (hj : ∀ F' τ, I F' τ → J F' τ) : Wk n J F σ := fun base w G a df hS hF =>
  let ⟨F', τ, G', h1, h2, h3, h4⟩ := h base w G a df hS hF
  ⟨F', τ, G', h1, h2, h3, hj _ _ h4⟩
theorem Wk.bind (h : Wk n I F σ) (hj : ∀ F' τ, I F' τ → Wk n J F' τ) : Wk n J F σ := fun base w G a df hS hF => by
  obtain ⟨F', τ, G', h1, h2, h3, h4⟩ := h base w G a df hS hF
  obtain ⟨F2, τ2, G2, k1, k2, k3, k4⟩ := hj F' τ h4 base w G' a df h2 h3
  exact ⟨F2, τ2, G2, Gh.le_trans h1 k1, k2, k3, k4⟩
/-- Less of what is one's own. -/
theorem Wk.less (τ : St) (hl : τ.le σ) (h : Wk n I F τ) : Wk n I F σ := fun base w G a df hS hF => h base w G a df (hS.weaken hl) hF
/-- Less of what the slots hold. -/
theorem Wk.slots (F' : Fr) (hl : FLe F F') (h : Wk n I F' σ) : Wk n I F σ := fun base w G a df hS hF => h base w G a df hS (hF.le hl)
theorem Wk.slot (i : Nat) (d : D) (hd : D.Le (F i) d) (h : Wk n I (_root_.Go.Proofs.YtmpbofmhjjgccaaDoor.upd F i d) σ) : Wk n I F σ := h.slots _ fun t => by
  by_cases e : t = i
  · subst e; rw [upd_same]; exact hd
  · rw [upd_ne _ _ e]; exact .refl _
/-- A block of one's own is kept as it is. -/
theorem Wk.freeze (b : Nat) {x : Own} (hb : σ.own b = some x) (hx : match x with | .box _ _ | .arr _ _ _ _ => True | _ => False) (F' : Fr) (hF' : ∀ t, Fz b x (F t) (F' t)) (h : Wk n I F' (σ.set b none)) : Wk n I F σ := fun base w G a df hS hF => by
  obtain ⟨G', h1, h2, h3⟩ := hS.freeze hb hx
  obtain ⟨F2, τ2, G2, k1, k2, k3, k4⟩ := h base w G' a df h2 ⟨hF.size, hF.defers, fun t => h3 _ _ (hF' t) _ (hF.rep t)⟩
  exact ⟨F2, τ2, G2, Gh.le_trans h1 k1, k2, k3, k4⟩
end
def awp (P : Program) (n : Nat) : Code → (AEx → Fr → St → Prop) → Fr → St → Prop
  | .skip, K => K .normal
  | .label _, K => K .normal
  | .region _ ops false, K => fun F σ => aops P n ops (K .normal) (fun v => K (.pan v)) ops.toList F σ
  | .region _ ops true, K => fun F σ => adraw P n ops (K .normal) (fun v σ' => ∀ F', K (.pan v) F' σ') F σ
  | .seq x y, K => awp P n x (aseq (Wk n (awp P n y K)) K)
  | .cond c x y, K => fun F σ => match ev F c with
    | .v (.bool p) => (p = true → awp P n x K F σ) ∧ (p = false → awp P n y K F σ)
    | _ => False
  | .block id c, K => awp P n c (ablock id K)
  | .loop c, K => fun F σ => ∃ (I : Fr → St → Prop) (μ : Fr → St → Nat), Wk n I F σ ∧ ∀ F' σ', I F' σ' → awp P n c (aseq (Wk n fun F2 σ2 => I F2 σ2 ∧ μ F2 σ2 < μ F' σ') K) F' σ'
  | .exit id, K => K (.exit id)
  | .ret, K => K .ret
  | _, _ => fun _ _ => False

section
variable {P : Program} {n : Nat} {df : List Deferred} {base : World}
theorem aput_put {F : Fr} {dst : Option Tmp} {d : D} {K : Fr → Prop} (h : aput n F dst d K) {G : Gh} {a : Act} (hF : FrRep G a n df F) {v : Value} (hr : Rep G v d) : ∃ F', FrRep G (a.put dst v) n df F' ∧ K F' := by
  cases dst with
  | none => exact ⟨F, hF.put0 v, h⟩
  | some t => exact ⟨_, hF.put h.1 hr, h.2⟩
theorem wanted_of {ops : Array Oper} {o : Oper} {G : Gh} {a : Act} {F : Fr} (hF : FrRep G a n df F) {j t : Nat} {b p : Bool} (hg : o.guard = some (j, b)) (ht : (ops[j]?).bind (·.dst) = some t) (hp : F t = .v (.bool p)) :
    Region.wanted o (yielded ops a.tmps) = decide (p = b) := by
  have h := hF.rep t
  rw [hp] at h
  have hv := h.v_inv
  have hs : a.tmps[t]? = some (.bool p) := by
    cases hc : a.tmps[t]? with
    | none => rw [Array.getD_eq_getD_getElem?, hc] at hv; cases hv
    | some x => rw [Array.getD_eq_getD_getElem?, hc] at hv; rw [← hv]; rfl
  simp only [Region.wanted, hg]
  unfold yielded
  rw [ht]
  simp only [Option.bind_some, hs]
  cases p <;> cases b <;> rfl
theorem wanted_un {ops : Array Oper} {o : Oper} {G : Gh} {a : Act} {F : Fr} (hF : FrRep G a n df F) {j t : Nat} {b : Bool} {xs : Array Value} (hg : o.guard = some (j, b)) (ht : (ops[j]?).bind (·.dst) = some t) (hp : F t = .v (.tuple xs)) :
    Region.wanted o (yielded ops a.tmps) = false := by
  have h := hF.rep t
  rw [hp] at h
  have hv := h.v_inv
  simp only [Region.wanted, hg]
  unfold yielded
  rw [ht]
  cases hc : a.tmps[t]? with
  | none => simp only [Option.bind_some, hc]; cases b <;> rfl
  | some x =>
    rw [Array.getD_eq_getD_getElem?, hc] at hv
    have hv : x = .tuple xs := hv
    simp only [Option.bind_some, hc, hv]
    cases b <;> rfl
theorem aops_sound {ops : Array Oper} {K : Fr → St → Prop} {E : Value → Fr → St → Prop} {Q : Exit → Act → World → Prop} : ∀ (l : List Oper) (F : Fr) (σ : St) (a : Act) (w : World) (G : Gh), aops P n ops K E l F σ → Sim base w G σ → FrRep G a n df F →
    (∀ a' w' G' F' σ', G.le G' → Sim base w' G' σ' → FrRep G' a' n df F' → K F' σ' → Q .normal a' w') → (∀ v a' w' G' F' σ', G.le G' → Sim base w' G' σ' → FrRep G' a' n df F' → E v F' σ' → Q (.panic [{ v := v, recovered := false }]) a' w') → wpList P ops Q l a w
  | [], F, σ, a, w, G, h, hS, hF, hQ, hE => hQ a w G F σ G.le_refl hS hF h
  | o :: rest, F, σ, a, w, G, h, hS, hF, hQ, hE => by
    have step : aop P o.type F σ (fun d σ' => aput n F o.dst d fun F' => aops P n ops K E rest F' σ') (fun v σ' => E v F σ') o.op → o.wp P a w (wpList P ops Q rest) Q := fun h => aop_sound h hS hF (by
      intro v w' G' d σ' hle hS' hr hk
      obtain ⟨F', hF', hk'⟩ := aput_put hk (hF.mono hle) hr
      exact aops_sound rest F' σ' _ w' G' hk' hS' hF' (fun a2 w2 G2 F2 σ2 h2 => hQ a2 w2 G2 F2 σ2 (Gh.le_trans hle h2)) (fun v a2 w2 G2 F2 σ2 h2 => hE v a2 w2 G2 F2 σ2 (Gh.le_trans hle h2))) (by
      intro v w' G' σ' hle hS' he
      exact hE v a w' G' F σ' hle hS' (hF.mono hle) he)
    have skip : (aput n F o.dst (.v (.tuple #[])) fun F' => aops P n ops K E rest F' σ) → wpList P ops Q rest (a.put o.dst undef) w := fun h => by
      obtain ⟨F', hF', hk'⟩ := aput_put h hF (Rep.v undef)
      exact aops_sound rest F' σ _ w G hk' hS hF' hQ hE
    unfold aops at h
    unfold wpList
    cases hg : o.guard with
    | none =>
      simp only [hg] at h
      rw [if_pos (by simp [Region.wanted, hg])]
      exact .inl (step h)
    | some jb =>
      obtain ⟨j, b⟩ := jb
      simp only [hg] at h
      split at h
      · rename_i t ht
        split at h
        · rename_i p hp
          have hw := wanted_of hF hg ht hp
          by_cases hpb : p = b
          · rw [if_pos (by rw [hw]; simp [hpb])]
            exact .inl (step (h.1 hpb))
          · rw [if_neg (by rw [hw]; simp [hpb])]
            exact skip (h.2 (by cases p <;> cases b <;> simp_all))
        · rename_i xs hp
          rw [if_neg (by rw [wanted_un hF hg ht hp]; simp)]
          exact skip h
        · exact h.elim
      · exact h.elim
theorem awp_sound : ∀ (c : Code) (K : AEx → Fr → St → Prop) (Q : Exit → Act → World → Prop) (F : Fr) (σ : St) (a : Act) (w : World) (G : Gh), awp P n c K F σ → Sim base w G σ → FrRep G a n df F →
    (∀ e a' w' G' F' σ', G.le G' → Sim base w' G' σ' → FrRep G' a' n df F' → K e F' σ' → Q e.conc a' w') → c.wp P Q a w := by
  intro c
  induction c with
  | skip => exact fun K Q F σ a w G h hS hF hQ => wp_skip (hQ .normal a w G F σ G.le_refl hS hF h)
  | label l => exact fun K Q F σ a w G h hS hF hQ => wp_label (hQ .normal a w G F σ G.le_refl hS hF h)
  | region id ops draw =>
    intro K Q F σ a w G h hS hF hQ
    cases draw with
    | false => exact wp_region_list (aops_sound ops.toList F σ a w G h hS hF (fun a' w' G' F' σ' h1 h2 h3 h4 => hQ .normal a' w' G' F' σ' h1 h2 h3 h4) (fun v a' w' G' F' σ' h1 h2 h3 h4 => hQ (.pan v) a' w' G' F' σ' h1 h2 h3 h4))
    | true => exact h base w G a df Q id hS hF (fun a' w' G' F' σ' h1 h2 h3 h4 => hQ .normal a' w' G' F' σ' h1 h2 h3 h4) (fun v a' w' G' F' σ' h1 h2 h3 h4 => hQ (.pan v) a' w' G' F' σ' h1 h2 h3 (h4 F'))
  | seq x y ihx ihy =>
    intro K Q F σ a w G h hS hF hQ
    refine wp_seq (ihx _ _ F σ a w G h hS hF ?_)
    intro e a' w' G' F' σ' h1 h2 h3 h4
    cases e with
    | normal =>
      obtain ⟨F3, τ, G3, k0, k1, k2, k3⟩ := h4 base w' G' a' df h2 h3
      exact ihy K Q F3 τ a' w' G3 k3 k1 k2 (fun e a2 w2 G2 F2 σ2 g1 => hQ e a2 w2 G2 F2 σ2 (Gh.le_trans h1 (Gh.le_trans k0 g1)))
    | exit id => exact hQ (.exit id) a' w' G' F' σ' h1 h2 h3 h4
    | ret => exact hQ .ret a' w' G' F' σ' h1 h2 h3 h4
    | pan v => exact hQ (.pan v) a' w' G' F' σ' h1 h2 h3 h4
  | cond c x y ihx ihy =>
    intro K Q F σ a w G h hS hF hQ
    simp only [awp] at h
    split at h
    · rename_i p hp
      have hc : a.eval c = .bool p := by
        have := hF.ev c
        rw [hp] at this
        exact this.v_inv
      exact wp_cond_split hc (fun e => ihx K Q F σ a w G (h.1 e) hS hF hQ) (fun e => ihy K Q F σ a w G (h.2 e) hS hF hQ)
    · exact h.elim
  | block id c ih =>
    intro K Q F σ a w G h hS hF hQ
    refine wp_block (ih _ _ F σ a w G h hS hF ?_)
    intro e a' w' G' F' σ' h1 h2 h3 h4
    cases e with
    | normal => exact hQ .normal a' w' G' F' σ' h1 h2 h3 h4
    | exit j =>
      by_cases hj : j = id
      · simp only [AEx.conc, Exit.inBlock, if_pos hj]
        simp only [ablock, if_pos hj] at h4
        exact hQ .normal a' w' G' F' σ' h1 h2 h3 h4
      · simp only [AEx.conc, Exit.inBlock, if_neg hj]
        simp only [ablock, if_neg hj] at h4
        exact hQ (.exit j) a' w' G' F' σ' h1 h2 h3 h4
    | ret => exact hQ .ret a' w' G' F' σ' h1 h2 h3 h4
    | pan v => exact hQ (.pan v) a' w' G' F' σ' h1 h2 h3 h4
  | loop c ih =>
    intro K Q F σ a w G h hS hF hQ
    obtain ⟨I, μ, hI, hround⟩ := h
    obtain ⟨F0, σ0, G0, hle0, hS0, hF0, hI0⟩ := hI base w G a df hS hF
    refine wp_loop_ghost (fun m a w => ∃ F σ' G', G.le G' ∧ μ F σ' = m ∧ I F σ' ∧ Sim base w G' σ' ∧ FrRep G' a n df F) (μ F0 σ0) ⟨F0, σ0, G0, hle0, rfl, hI0, hS0, hF0⟩ ?_
    rintro m a w ⟨F, σ, G1, hle, hm, hI, hS, hF⟩
    refine ih _ _ F σ a w G1 (hround F σ hI) hS hF ?_
    intro e a' w' G' F' σ' h1 h2 h3 h4
    cases e with
    | normal =>
      obtain ⟨F3, τ, G3, k0, k1, k2, k3⟩ := h4 base w' G' a' df h2 h3
      exact ⟨μ F3 τ, by rw [← hm]; exact k3.2, F3, τ, G3, Gh.le_trans hle (Gh.le_trans h1 k0), rfl, k3.1, k1, k2⟩
    | exit id => exact hQ (.exit id) a' w' G' F' σ' (Gh.le_trans hle h1) h2 h3 h4
    | ret => exact hQ .ret a' w' G' F' σ' (Gh.le_trans hle h1) h2 h3 h4
    | pan v => exact hQ (.pan v) a' w' G' F' σ' (Gh.le_trans hle h1) h2 h3 h4
  | exit id => exact fun K Q F σ a w G h hS hF hQ => wp_exit (hQ (.exit id) a w G F σ G.le_refl hS hF h)
  | ret => exact fun K Q F σ a w G h hS hF hQ => wp_ret (hQ .ret a w G F σ G.le_refl hS hF h)
  | _ => exact fun K Q F σ a w G h hS hF hQ => h.elim
/-! ### Functions -/
/-- What is handed back. -/
def aresL (P : Program) : List ResultVar → Fr → St → (List D → Prop) → Prop
  | [], F, σ, K => K []
  | .tmp t :: rs, F, σ, K => aresL P rs F σ fun ds => K (F t :: ds)
  | .cell a ty :: rs, F, σ, K => wo (layOf P ty) fun l => match F a with
    | .v (.pointer (some ⟨b, o, none⟩)) => match σ.own b with | some (.box _ cs) => aload l (cs.drop o) fun d => aresL P rs F σ fun ds => K (d :: ds) | _ => False
    | _ => False
def aone (K : D → Prop) : List D → Prop
  | [d] => K d
  | ds => K (.tup ds)
def resRun (tmps : Array Value) : ResultVar → Sem Value
  | .tmp t => pure (tmps.getD t undef)
  | .cell b t => do loadVar t (← asAddr (tmps.getD b undef))
theorem results_eq (fn : Func) (tmps : Array Value) : results fn tmps = (do let vs ← (List.toArray <$> fn.results.toList.mapM (resRun tmps)); pure (if h : vs.size = 1 then vs[0] else .tuple vs)) := by
  unfold results
  rw [Array.mapM_eq_mapM_toList]
  congr 2
theorem aresL_sound {G : Gh} {w : World} : ∀ (rs : List ResultVar) (F : Fr) (σ : St) (a : Act) (K : List D → Prop), aresL P rs F σ K → Sim base w G σ → FrRep G a n df F →
    ∃ vs ds, (rs.mapM (resRun a.tmps)).run P w = Result.ok vs w ∧ RepL G vs ds ∧ K ds
  | [], F, σ, a, K, h, hS, hF => ⟨[], [], by simp, RepL.nil G, h⟩
  | .tmp t :: rs, F, σ, a, K, h, hS, hF => by
    obtain ⟨vs, ds, h1, h2, h3⟩ := aresL_sound rs F σ a _ h hS hF
    exact ⟨_ :: vs, F t :: ds, by simp [List.mapM_cons, resRun, h1], h2.cons (hF.rep t), h3⟩
  | .cell b t :: rs, F, σ, a, K, h, hS, hF => by
    simp only [aresL] at h
    replace h := wo_inv h
    obtain ⟨l, hl, h⟩ := h
    have hev := hF.rep b
    split at h
    · rename_i g off hx
      rw [hx] at hev
      split at h
      · rename_i T cs hb
        obtain ⟨g1, g2, us, g3, g4, g5⟩ := hS.own g _ hb
        obtain ⟨v, d, r1, r2, r3⟩ := aload_sound (b := g) (off := off) (w := w) hl (g4.drop off) (fun y hy => g5 y (List.mem_of_mem_drop hy)) (fun j v hv => by
          rw [List.getElem?_drop] at hv
          rw [blk_cell g3, List.getElem?_toArray]
          exact hv) h
        obtain ⟨vs, ds, h1, h2, h3⟩ := aresL_sound rs F σ a _ r3 hS hF
        exact ⟨v :: vs, d :: ds, by simp [List.mapM_cons, resRun, hev.v_inv, asAddr, r1, h1], h2.cons r2, h3⟩
      · exact h.elim
    · exact h.elim
/-- What a function hands back, looked at anew. -/
def Ret (R : D → St → Prop) (σ : St) (d : D) : Prop := ∀ (base w : World) (G : Gh) (v : Value), Sim base w G σ → Rep G v d → ∃ d' τ G', G.le G' ∧ Sim base w G' τ ∧ Rep G' v d' ∧ R d' τ
theorem Ret.same {R : D → St → Prop} {σ : St} {d : D} (hR : R d σ) : Ret R σ d := fun base w G v hS hv => ⟨d, σ, G, G.le_refl, hS, hv, hR⟩
theorem Ret.le {R : D → St → Prop} {σ : St} {d : D} (d' : D) (hd : D.Le d d') (h : Ret R σ d') : Ret R σ d := fun base w G v hS hv => h base w G v hS (hv.le hd)
theorem Ret.less {R : D → St → Prop} {σ : St} {d : D} (τ : St) (hl : τ.le σ) (h : Ret R τ d) : Ret R σ d := fun base w G v hS hv => h base w G v (hS.weaken hl) hv
theorem Ret.mk {R : D → St → Prop} {σ : St} {d : D} (d' : D) (τ : St) (hd : D.Le d d') (hl : τ.le σ) (hR : R d' τ) : Ret R σ d := Ret.le d' hd (Ret.less τ hl (Ret.same hR))
/-- A block of one's own is kept as it is. -/
theorem Ret.freeze {R : D → St → Prop} {σ : St} {d : D} (b : Nat) {x : Own} (hb : σ.own b = some x) (hx : match x with | .box _ _ | .arr _ _ _ _ => True | _ => False) (d' : D) (hd : Fz b x d d') (h : Ret R (σ.set b none) d') : Ret R σ d := fun base w G v hS hv => by
  obtain ⟨G', h1, h2, h3⟩ := hS.freeze hb hx
  obtain ⟨d2, τ, G2, k1, k2, k3, k4⟩ := h base w G' v h2 (h3 _ _ hd v hv)
  exact ⟨d2, τ, G2, Gh.le_trans h1 k1, k2, k3, k4⟩
def frameOf (ds : List D) : Fr := fun t => ds.getD t .any
/-- A function's contract, out of its code. -/
theorem trix_fn {f : FuncId} {fn : Func} {c : Code} {ds : List D} {σ : St} {R : Out → St → Prop} {m : Nat} {rs : Array ResultVar} (hf : P.funcs[f]? = some fn) (hb : fn.body = some c) (hnt : fn.ntmps = m) (hrs : fn.results = rs) (hn : ds.length ≤ m)
    (h : awp P m c (fun e F σ' => match e with | .exit _ => False | .pan v => R (.pan v) σ' | _ => aresL P rs.toList F σ' (aone (Ret (fun d => R (.ret d)) σ'))) (frameOf ds) σ) : TriX P f ds σ R := by
  subst hnt
  subst hrs
  intro base w G vs hS hA
  refine calls_of_wp hf hb ?_
  have hF : FrRep G { tmps := vs.toArray ++ Array.replicate (fn.ntmps - vs.toArray.size) undef, defers := [] } fn.ntmps [] (frameOf ds) := by
    have hlen := hA.len
    refine ⟨by simp; omega, rfl, fun t => ?_⟩
    unfold frameOf
    by_cases ht : t < ds.length
    · have ht' : t < vs.length := by rw [hlen]; exact ht
      have e1 : (vs.toArray ++ Array.replicate (fn.ntmps - vs.toArray.size) undef).getD t undef = vs[t] := by
        rw [Array.getD_eq_getD_getElem?, Array.getElem?_append_left (by simpa using ht')]
        simp [ht']
      rw [e1, List.getD_eq_getElem?_getD, List.getElem?_eq_getElem ht]
      exact hA.rep t _ _ (List.getElem?_eq_getElem ht') (List.getElem?_eq_getElem ht)
    · rw [List.getD_eq_getElem?_getD, List.getElem?_eq_none (by omega)]
      exact .any _
  refine awp_sound c _ _ (frameOf ds) σ _ w G h hS hF ?_
  intro e a' w' G' F' σ' h1 h2 h3 h4
  have back : aresL P fn.results.toList F' σ' (aone (Ret (fun d => R (.ret d)) σ')) → ∃ v, (results fn a'.tmps).run P w' = .ok v w' ∧ ∃ d τ G2, G'.le G2 ∧ Sim base w' G2 τ ∧ Rep G2 v d ∧ R (.ret d) τ := by
    intro h4
    obtain ⟨rs, es, hr, hrep, hk⟩ := aresL_sound fn.results.toList F' σ' a' _ h4 h2 h3
    have hrun : ∀ (x : Value), (if h : rs.toArray.size = 1 then rs.toArray[0] else Value.tuple rs.toArray) = x → (results fn a'.tmps).run P w' = .ok x w' := by
      intro x hx
      subst hx
      rw [results_eq]
      simp only [Sem.run_bind, Sem.run_map, hr, Result.andThen_ok, Sem.run_pure]
    match es, hk, hrep with
    | [], hk, hrep =>
      have := hrep.inv0
      subst this
      exact ⟨_, hrun _ rfl, hk base w' G' _ h2 (.tup [] [] rfl (by simp))⟩
    | [d], hk, hrep =>
      obtain ⟨x, xs, rfl, hx, hxs⟩ := hrep.inv
      have := hxs.inv0
      subst this
      exact ⟨x, hrun _ rfl, hk base w' G' x h2 hx⟩
    | d1 :: d2 :: es, hk, hrep =>
      refine ⟨.tuple rs.toArray, hrun _ ?_, hk base w' G' _ h2 (.tup rs _ hrep.len hrep.rep)⟩
      have hlen := hrep.len
      rw [dif_neg]
      simp [hlen]
  cases e with
  | exit id => exact h4.elim
  | normal =>
    obtain ⟨v, hv, d, τ, G2, k1, k2, k3, k4⟩ := back h4
    exact ⟨h3.defers, v, hv, τ, G2, Gh.le_trans h1 k1, k2, .inl ⟨v, d, rfl, k3, k4⟩⟩
  | ret =>
    obtain ⟨v, hv, d, τ, G2, k1, k2, k3, k4⟩ := back h4
    exact ⟨h3.defers, v, hv, τ, G2, Gh.le_trans h1 k1, k2, .inl ⟨v, d, rfl, k3, k4⟩⟩
  | pan v => exact ⟨h3.defers, σ', G', h1, h2, .inr ⟨v, rfl, h4⟩⟩
theorem tri_fn {f : FuncId} {fn : Func} {c : Code} {ds : List D} {σ : St} {R : D → St → Prop} {m : Nat} {rs : Array ResultVar} (hf : P.funcs[f]? = some fn) (hb : fn.body = some c) (hnt : fn.ntmps = m) (hrs : fn.results = rs) (hn : ds.length ≤ m)
    (h : awp P m c (fun e F σ' => match e with | .exit _ => False | .pan _ => False | _ => aresL P rs.toList F σ' (aone (Ret R σ'))) (frameOf ds) σ) : Tri P f ds σ R := trix_fn hf hb hnt hrs hn h
end
end Go.Proofs.YtmpbofmhjjgccaaDoor
/-
  A region that draws its order, as it is reasoned about.
-/
namespace Go.Proofs.YtmpbofmhjjgccaaDoor
open Go.RowKit
set_option linter.unusedVariables false
set_option linter.unusedSimpArgs false

section
variable {P : Program} {σ : St} {K : D → St → Prop} {E : Value → St → Prop} {ty : TypeId}
theorem map_ev {F F' : Fr} {l : List Operand} (h : ∀ x ∈ l, ev F x = ev F' x) : l.map (ev F) = l.map (ev F') := List.map_congr_left h
theorem parts_ev {F F' : Fr} {l : List (Nat × Operand)} (h : ∀ x ∈ l.map (·.2), ev F x = ev F' x) : (l.map fun x => (x.1, ev F x.2)) = l.map fun x => (x.1, ev F' x.2) :=
  List.map_congr_left fun x hx => by rw [h x.2 (List.mem_map.2 ⟨x, hx, rfl⟩)]
theorem obound_ev {F F' : Fr} {d : Nat} {x : Option Operand} (h : ∀ y, x = some y → ev F y = ev F' y) : obound F d x = obound F' d x := by
  cases x with
  | none => rfl
  | some y => simp only [obound, h y rfl]
theorem aop_congr {F F' : Fr} {op : Op} (h : ∀ x ∈ op.operands.toList, ev F x = ev F' x) (ha : aop P ty F σ K E op) : aop P ty F' σ K E op := by
  cases op with
  | move x => have e := h x (by simp [Op.operands]); simp only [aop, e] at *; exact ha
  | assign x => have e := h x (by simp [Op.operands]); simp only [aop, e] at *; exact ha
  | pick c x y => have e := h c (by simp [Op.operands]); have e1 := h x (by simp [Op.operands]); have e2 := h y (by simp [Op.operands]); simp only [aop, e, e1, e2] at *; exact ha
  | alloc t => exact ha
  | box t x => have e := h x (by simp [Op.operands]); simp only [aop, e] at *; exact ha
  | build t ps =>
    have e := parts_ev (F := F) (F' := F') (l := ps.toList) (fun x hx => h x (by simpa [Op.operands] using hx))
    simp only [aop, e] at *; exact ha
  | buildSlice t m ps =>
    have e := parts_ev (F := F) (F' := F') (l := ps.toList) (fun x hx => h x (by simpa [Op.operands] using hx))
    simp only [aop, e] at *; exact ha
  | load t x => have e := h x (by simp [Op.operands]); simp only [aop, e] at *; exact ha
  | store t x y => have e := h x (by simp [Op.operands]); have e1 := h y (by simp [Op.operands]); simp only [aop, e, e1] at *; exact ha
  | nilCheck x => have e := h x (by simp [Op.operands]); simp only [aop, e] at *; exact ha
  | binOp op t x y ty' => have e := h x (by simp [Op.operands]); have e1 := h y (by simp [Op.operands]); simp only [aop, e, e1] at *; exact ha
  | unOp op t x => have e := h x (by simp [Op.operands]); simp only [aop, e] at *; exact ha
  | makeInterface t x => have e := h x (by simp [Op.operands]); simp only [aop, e] at *; exact ha
  | makeFunc fn first caps =>
    have e := map_ev (F := F) (F' := F') (l := caps.toList) (fun x hx => h x (by simp [Op.operands]; right; simpa using hx))
    have e1 := map_ev (F := F) (F' := F') (l := first.toList) (fun x hx => h x (by simp [Op.operands]; left; simpa using hx))
    simp only [aop, e, e1] at *; exact ha
  | convert s t x => have e := h x (by simp [Op.operands]); simp only [aop, e] at *; exact ha
  | makeMap t r => exact ha
  | makeSlice t x y => have e := h x (by simp [Op.operands]); have e1 := h y (by simp [Op.operands]); simp only [aop, e, e1] at *; exact ha
  | lookup t x ix ok => have e := h x (by simp [Op.operands]); have e1 := h ix (by simp [Op.operands]); simp only [aop, e, e1] at *; exact ha
  | mapUpdate t x k y => have e := h x (by simp [Op.operands]); have e1 := h k (by simp [Op.operands]); have e2 := h y (by simp [Op.operands]); simp only [aop, e, e1, e2] at *; exact ha
  | mapEntry t x k => have e := h x (by simp [Op.operands]); have e1 := h k (by simp [Op.operands]); simp only [aop, e, e1] at *; exact ha
  | entryStore t x k y => have e := h x (by simp [Op.operands]); have e1 := h k (by simp [Op.operands]); have e2 := h y (by simp [Op.operands]); simp only [aop, e, e1, e2] at *; exact ha
  | typeAssert x s t ok => have e := h x (by simp [Op.operands]); simp only [aop, e] at *; exact ha
  | panic x => have e := h x (by simp [Op.operands]); simp only [aop, e] at *; exact ha
  | slice t x lo hi mx =>
    have e := h x (by simp [Op.operands])
    have e1 : ∀ d, obound F d lo = obound F' d lo := fun d => obound_ev fun y hy => h y (by subst hy; simp [Op.operands])
    have e2 : ∀ d, obound F d hi = obound F' d hi := fun d => obound_ev fun y hy => h y (by subst hy; simp [Op.operands])
    have e3 : ∀ m, mx = some m → ev F m = ev F' m := fun m hm => h m (by subst hm; simp [Op.operands])
    simp only [aop, e] at ha ⊢
    cases hl : layOf P t with
    | none => rw [hl] at ha; exact ha
    | some l =>
      rw [hl] at ha
      simp only [wo] at ha ⊢
      cases hk : l.kd with
      | str =>
        simp only [hk] at ha ⊢
        cases hd : ev F' x with
        | v y =>
          simp only [hd] at ha ⊢
          cases y <;> first | exact ha | (simp only [e1, e2] at ha ⊢; exact ha)
        | _ => simp only [hd] at ha
      | slice e' =>
        simp only [hk] at ha ⊢
        cases hle : layOf P e' with
        | none => cases hd : ev F' x <;> simp only [hd, hle] at ha
        | some le =>
          cases hd : ev F' x with
          | arr b sz cap o n =>
            simp only [hd, hle] at ha ⊢
            cases mx with
            | none => simp only [e1, e2] at ha ⊢; exact ha
            | some m => have e4 := e3 m rfl; simp only [e1, e2, e4] at ha ⊢; exact ha
          | slice tip full sz ds =>
            cases mx with
            | none => simp only [hd, hle, D.list, e1, e2] at ha ⊢; exact ha
            | some m => have e4 := e3 m rfl; simp only [hd, hle, D.list, e1, e2, e4] at ha ⊢; exact ha
          | lst full sz ds =>
            cases mx with
            | none => simp only [hd, hle, D.list, e1, e2] at ha ⊢; exact ha
            | some m => have e4 := e3 m rfl; simp only [hd, hle, D.list, e1, e2, e4] at ha ⊢; exact ha
          | _ => simp only [hd, hle, D.list] at ha
      | _ => simp only [hk] at ha
  | fieldAddr s x f => have e := h x (by simp [Op.operands]); simp only [aop, e] at *; exact ha
  | field s x f => have e := h x (by simp [Op.operands]); simp only [aop, e] at *; exact ha
  | indexAddr t x ix => have e := h x (by simp [Op.operands]); have e1 := h ix (by simp [Op.operands]); simp only [aop, e, e1] at *; exact ha
  | index t x ix => have e := h x (by simp [Op.operands]); have e1 := h ix (by simp [Op.operands]); simp only [aop, e, e1] at *; exact ha
  | extract x k => have e := h x (by simp [Op.operands]); simp only [aop, e] at *; exact ha
  | call c =>
    have e := map_ev (F := F) (F' := F') (l := c.args.toList) (fun x hx => h x (by simp [Op.operands, Call.operands]; right; simpa using hx))
    obtain ⟨callee, args, tys⟩ := c
    cases callee with
    | value x => have e1 := h x (by simp [Op.operands, Call.operands]); simp only [aop, e, e1] at *; exact ha
    | builtin b => simp only [aop, e] at *; exact ha
    | invoke r m => exact ha
  | _ => exact ha
end
end Go.Proofs.YtmpbofmhjjgccaaDoor
/-
  A region that draws its order: whatever the order, it comes to what it comes to in one that is told: first what only reads (and what only counts), then what changes.
-/
namespace Go.Proofs.YtmpbofmhjjgccaaDoor
open Go.RowKit
set_option linter.unusedVariables false
set_option linter.unusedSimpArgs false

/-- With more that is one's own. -/
def St.ext (σ e : St) : St := ⟨fun b => (σ.own b).or (e.own b)⟩
theorem St.ext_of {σ τ : St} (h : σ.le τ) : σ.ext τ = τ := St.ext' fun b => by
  show (σ.own b).or (τ.own b) = τ.own b
  cases hb : σ.own b with
  | none => rfl
  | some x => exact (h b x hb).symm
theorem own_ext (σ e : St) (b : Nat) : (σ.ext e).own b = (σ.own b).or (e.own b) := rfl

section
variable (P : Program) (n : Nat) (ops : Array Oper)
def wr (t : Nat) : Option Nat := ops.toList.findIdx? (fun o => o.dst == some t)
def dep (i j : Nat) : Bool := match ops[i]? with | some o => o.after.toList.any (fun e => e.on == j && Region.binds .any e) | none => false
def anc : Nat → Nat → Nat → Bool
  | 0, _, _ => false
  | k + 1, i, j => dep ops i j || (List.range ops.size).any fun m => dep ops i m && anc k m j
def tmpsOf (o : Oper) : List Nat := o.op.operands.toList.filterMap fun | .tmp t => some t | _ => none
def dstOf (i : Nat) : Option Nat := (ops[i]?).bind (·.dst)
/-- Does an operation see what the ones that are seen left, and of the others what was there? -/
def chkI (seen : List Nat) (i : Nat) : Bool :=
  match ops[i]? with
  | some o => (tmpsOf o).all (fun t => match wr ops t with | none => true | some j => if seen.contains j then dep ops i j else dep ops j i) && (match o.guard with | none => true | some (j, _) => seen.contains j && dep ops i j)
  | none => false
def chkQ : List Nat → List (Nat × Bool) → Bool
  | _, [] => true
  | seen, (i, _) :: r => chkI ops seen i && chkQ (i :: seen) r
def chkT (behind : List Nat) : List Nat → List Nat → Bool
  | _, [] => true
  | seen, i :: r => chkI ops seen i && (match ops[i]? with | some o => o.guard.isNone | none => false) && behind.all (fun j => anc ops ops.size i j) && chkT (i :: behind) (i :: seen) r
def chk (q : List (Nat × Bool)) (al : List Nat) (tl : List Nat) : Bool :=
  (List.range ops.size).all (fun i => match dstOf ops i with | some t => wr ops t == some i | none => true) &&
  (List.range ops.size).all (fun i => match ops[i]? with | some o => o.after.toList.all (fun e => !Region.binds .any e || decide (e.on < i)) | none => false) &&
  (List.range ops.size).all (fun i => (q.map (·.1)).contains i || al.contains i || tl.contains i) &&
  decide ((q.map (·.1) ++ al ++ tl).Nodup) &&
  chkQ ops [] q &&
  al.all (fun i => chkI ops (q.map (·.1)) i && (match ops[i]? with | some o => o.guard.isNone | none => false)) &&
  chkT ops ((q.filter (fun x => !x.2)).map (·.1) ++ al) (al ++ q.map (·.1)) tl

/-- What is owed at an operation that changes nothing. -/
def obl (σ : St) (pu : Bool) (o : Oper) (F : Fr) (d : D) : Prop := ∀ τ : St, (pu = true ∨ σ.le τ) → aop P o.type F τ (fun d' τ' => D.Le d' d ∧ τ.le τ') (fun _ _ => False) o.op
def dqv (σ : St) (pu : Bool) (o : Oper) (F : Fr) (d : D) : Prop :=
  match o.guard with
  | none => obl P σ pu o F d
  | some (j, b) => ∃ t, dstOf ops j = some t ∧ ((∃ p, F t = .v (.bool p) ∧ (p = b → obl P σ pu o F d) ∧ (p = !b → d = .v (.tuple #[]))) ∨ ((∃ xs, F t = .v (.tuple xs)) ∧ d = .v (.tuple #[])))
def fstep (dv : Nat → D) (i : Nat) (F : Fr) : Fr := match dstOf ops i with | some t => upd F t (dv i) | none => F
def dq (σ : St) (K : Fr → Prop) : List (Nat × Bool) → Fr → Prop
  | [], F => K F
  | (i, pu) :: r, F => wo ops[i]? fun o => ∃ d, dqv P ops σ pu o F d ∧ aput n F o.dst d (dq σ K r)
def dqs (σ : St) (dv : Nat → D) : List (Nat × Bool) → Fr → Prop
  | [], _ => True
  | (i, pu) :: r, F => (∃ o, ops[i]? = some o ∧ dqv P ops σ pu o F (dv i) ∧ ∀ t, o.dst = some t → t < n) ∧ dqs σ dv r (fstep ops dv i F)
def fset (dv : Nat → D) : List (Nat × Bool) → Fr → Fr
  | [], F => F
  | (i, _) :: r, F => fset dv r (fstep ops dv i F)
def opersOf (tl : List Nat) : List Oper := tl.filterMap (ops[·]?)
/-- An operation that makes a block of one's own (or a list's that may grow): the value, and what is one's own, by the block and a room. -/
structure AlE where
  i : Nat
  d : Nat → Nat → D
  ow : Nat → Nat → Own
  ok : Nat → Prop
/-- What is owed at it. -/
def oblA (σ : St) (o : Oper) (F : Fr) (mk : Nat → Nat → D) (ow : Nat → Nat → Own) (ok : Nat → Prop) : Prop := ∀ τ : St, σ.le τ → aop P o.type F τ (fun d' τ' => ∃ b c, Fresh τ b ∧ ok c ∧ D.Le d' (mk b c) ∧ (τ.set b (some (ow b c))).le τ') (fun _ _ => False) o.op
def dals (σ : St) (F : Fr) (fin : List AlE → Prop) : List Nat → List AlE → Prop
  | [], acc => fin acc
  | i :: r, acc => wo ops[i]? fun o => (∀ t, o.dst = some t → t < n) ∧ ∃ mk ow ok, oblA P σ o F mk ow ok ∧ dals σ F fin r (acc ++ [⟨i, mk, ow, ok⟩])
def putA (e : AlE) (b c : Nat) (F : Fr) : Fr := match dstOf ops e.i with | some t => upd F t (e.d b c) | none => F
def dfin (K : Fr → St → Prop) : List AlE → Fr → St → Prop
  | [], F, σ => K F σ
  | e :: r, F, σ => ∀ b c, Fresh σ b → e.ok c → dfin K r (putA ops e b c F) (σ.set b (some (e.ow b c)))
def dtail (σ : St) (al : List Nat) (tl : List Nat) (K : Fr → St → Prop) (E : Value → St → Prop) (F : Fr) : Prop :=
  dals P n ops σ F (fun acc => dfin ops (fun F' σ' => aops P n ops K (fun v _ τ => E v τ) (opersOf ops tl) F' σ') acc F σ) al []
end

section
variable {P : Program} {n : Nat} {ops : Array Oper} {σ : St}
theorem dals_inv {F : Fr} {fin : List AlE → Prop} : ∀ (al : List Nat) (acc : List AlE), dals P n ops σ F fin al acc → ∃ es : List AlE, es.map (·.i) = al ∧ fin (acc ++ es) ∧ ∀ e ∈ es, ∃ o, ops[e.i]? = some o ∧ (∀ t, o.dst = some t → t < n) ∧ oblA P σ o F e.d e.ow e.ok
  | [], acc, h => ⟨[], rfl, by rw [List.append_nil]; exact h, by simp⟩
  | i :: r, acc, h => by
    simp only [dals] at h
    obtain ⟨o, ho, hlt, mk, ow, ok, h1, h2⟩ := wo_inv h
    obtain ⟨es, h3, h4, h5⟩ := dals_inv r _ h2
    refine ⟨⟨i, mk, ow, ok⟩ :: es, by simp [h3], by simpa using h4, fun e he => ?_⟩
    rcases List.mem_cons.1 he with rfl | he
    · exact ⟨o, ho, hlt, h1⟩
    · exact h5 e he
theorem dqs_congr {dv dv' : Nat → D} : ∀ (q : List (Nat × Bool)) (F : Fr), (∀ x ∈ q, dv x.1 = dv' x.1) → dqs P n ops σ dv q F → dqs P n ops σ dv' q F ∧ fset ops dv q F = fset ops dv' q F
  | [], F, _, _ => ⟨trivial, rfl⟩
  | (i, pu) :: r, F, he, ⟨⟨o, h1, h2, h3⟩, h4⟩ => by
    have hi : dv i = dv' i := he (i, pu) (by simp)
    have hs : fstep ops dv i F = fstep ops dv' i F := by unfold fstep; rw [hi]
    rw [hs] at h4
    obtain ⟨h5, h6⟩ := dqs_congr r _ (fun x hx => he x (by simp [hx])) h4
    refine ⟨⟨⟨o, h1, hi ▸ h2, h3⟩, h5⟩, ?_⟩
    show fset ops dv r (fstep ops dv i F) = fset ops dv' r (fstep ops dv' i F)
    rw [hs]
    exact h6
theorem dq_inv {K : Fr → Prop} : ∀ (q : List (Nat × Bool)) (F : Fr), (q.map (·.1)).Nodup → dq P n ops σ K q F → ∃ dv : Nat → D, dqs P n ops σ dv q F ∧ K (fset ops dv q F)
  | [], F, _, h => ⟨fun _ => .any, trivial, h⟩
  | (i, pu) :: r, F, hn, h => by
    simp only [dq] at h
    obtain ⟨o, ho, d, h1, h2⟩ := wo_inv h
    have hni : i ∉ r.map (·.1) := by simpa using (List.nodup_cons.1 hn).1
    have hlt : ∀ t, o.dst = some t → t < n := by
      intro t ht
      rw [ht] at h2
      exact h2.1
    have hst : dq P n ops σ K r (fstep ops (fun _ => d) i F) := by
      unfold fstep dstOf
      rw [ho]
      simp only [Option.bind_some]
      cases hd : o.dst with
      | none => rw [hd] at h2; exact h2
      | some t => rw [hd] at h2; exact h2.2
    obtain ⟨dv, h3, h4⟩ := dq_inv r _ (List.nodup_cons.1 hn).2 hst
    have e1 : ∀ x ∈ r, dv x.1 = (fun k => if k = i then d else dv k) x.1 := fun x hx => by
      have : x.1 ≠ i := by rintro rfl; exact hni (List.mem_map.2 ⟨x, hx, rfl⟩)
      simp [this]
    obtain ⟨h5, h6⟩ := dqs_congr (dv := dv) (dv' := fun k => if k = i then d else dv k) r _ e1 h3
    have es : fstep ops (fun k => if k = i then d else dv k) i F = fstep ops (fun _ => d) i F := by unfold fstep; simp
    refine ⟨fun k => if k = i then d else dv k, ⟨⟨o, ho, by simpa using h1, hlt⟩, by rw [es]; exact h5⟩, ?_⟩
    show K (fset ops _ r (fstep ops _ i F))
    rw [es, ← h6]
    exact h4
/-- What a slot holds, by which operations are done. -/
def slotOf (ops : Array Oper) (F0 : Fr) (val : Nat → D) (E : Nat → Bool) (t : Nat) : D :=
  match wr ops t with
  | none => F0 t
  | some j => if E j then val j else F0 t
theorem wr_dst {t j : Nat} (h : wr ops t = some j) : dstOf ops j = some t := by
  unfold wr at h
  obtain ⟨h1, h2, _⟩ := List.findIdx?_eq_some_iff_getElem.1 h
  unfold dstOf
  have : ops[j]? = some ops.toList[j] := by rw [← Array.getElem?_toList, List.getElem?_eq_getElem h1]
  rw [this]
  simpa using h2
structure ChkW (ops : Array Oper) : Prop where
  uniq : ∀ i t, dstOf ops i = some t → wr ops t = some i
theorem slot_put {F0 : Fr} {val : Nat → D} {E : Nat → Bool} (hu : ChkW ops) {i : Nat} {t0 : Nat} (hi : dstOf ops i = some t0) (hE : E i = false) (d : D) (t : Nat) :
    slotOf ops F0 (fun k => if k = i then d else val k) (fun k => E k || k == i) t = if t = t0 then d else slotOf ops F0 val E t := by
  unfold slotOf
  by_cases e : t = t0
  · subst e
    rw [hu.uniq i t hi]
    simp
  · rw [if_neg e]
    cases hw : wr ops t with
    | none => rfl
    | some j =>
      have hj : j ≠ i := by
        rintro rfl
        have := wr_dst hw
        rw [hi] at this
        injection this with this
        exact e this.symm
      simp [hj]
theorem slot_none {F0 : Fr} {val : Nat → D} {E : Nat → Bool} {i : Nat} (hi : dstOf ops i = none) (d : D) (t : Nat) :
    slotOf ops F0 (fun k => if k = i then d else val k) (fun k => E k || k == i) t = slotOf ops F0 val E t := by
  unfold slotOf
  cases hw : wr ops t with
  | none => rfl
  | some j =>
    have hj : j ≠ i := by
      rintro rfl
      have := wr_dst hw
      rw [hi] at this
      cases this
    simp [hj]
/-- At an operation's turn: what it sees in the order that is told is what there is. -/
theorem sees {F0 : Fr} {dv val : Nat → D} {E : Nat → Bool} {i : Nat} {seen : List Nat} {F : Fr} {o : Oper} (ho : ops[i]? = some o) (hc : chkI ops seen i = true) (hF : ∀ t, F t = slotOf ops F0 dv (fun j => seen.contains j) t) (hv : ∀ j, seen.contains j = true → E j = true → val j = dv j) (hsh : ∀ k j, E k = true → dep ops k j = true → E j = true) (hi : E i = false) (hdep : ∀ j, dep ops i j = true → E j = true) :
    ∀ x ∈ o.op.operands.toList, ev F x = ev (slotOf ops F0 val E) x := by
  unfold chkI at hc
  rw [ho] at hc
  simp only [Bool.and_eq_true, List.all_eq_true] at hc
  intro x hx
  cases x with
  | tmp t =>
    have ht : t ∈ tmpsOf o := List.mem_filterMap.2 ⟨.tmp t, hx, rfl⟩
    have h1 := hc.1 t ht
    show F t = slotOf ops F0 val E t
    rw [hF t]
    unfold slotOf
    cases hw : wr ops t with
    | none => rfl
    | some j =>
      rw [hw] at h1
      simp only at h1 ⊢
      by_cases hj : seen.contains j = true
      · rw [if_pos hj] at h1
        rw [if_pos hj, if_pos (hdep j h1), hv j hj (hdep j h1)]
      · rw [if_neg hj] at h1
        rw [if_neg hj]
        have : E j = false := by
          cases hE : E j with
          | false => rfl
          | true => rw [hsh j i hE h1] at hi; cases hi
        rw [if_neg (by simp [this])]
  | const v => rfl
  | global g => rfl
  | func f => rfl
theorem fstep_slot {F0 : Fr} {dv : Nat → D} (hu : ChkW ops) {k : Nat} {seen : List Nat} {F : Fr} (hks : k ∉ seen) (hF : ∀ t, F t = slotOf ops F0 dv (fun j => seen.contains j) t) (t : Nat) : fstep ops dv k F t = slotOf ops F0 dv (fun j => (k :: seen).contains j) t := by
  have hks' : (fun j => seen.contains j) k = false := by simpa using hks
  have e : (fun j => (k :: seen).contains j) = fun j => (fun j => seen.contains j) j || j == k := by
    funext j
    simp only [List.contains_cons]
    rw [Bool.or_comm]
  have ev : dv = fun m => if m = k then dv k else dv m := by funext m; by_cases hm : m = k <;> simp [hm]
  rw [e]
  unfold fstep
  cases hd : dstOf ops k with
  | none =>
    have := slot_none (F0 := F0) (val := dv) (E := fun j => seen.contains j) hd (dv k) t
    rw [← ev] at this
    rw [this]
    exact hF t
  | some t0 =>
    have := slot_put (F0 := F0) (val := dv) (E := fun j => seen.contains j) hu hd hks' (dv k) t
    rw [← ev] at this
    rw [this]
    simp only [upd]
    split
    · rfl
    · exact hF t
theorem slot_congr {F0 : Fr} {val val' : Nat → D} {E E' : Nat → Bool} (h : ∀ j, j < ops.size → E j = E' j ∧ (E j = true → val j = val' j)) (t : Nat) : slotOf ops F0 val E t = slotOf ops F0 val' E' t := by
  unfold slotOf
  cases hw : wr ops t with
  | none => rfl
  | some j =>
    have hj : j < ops.size := by
      unfold wr at hw
      have := (List.findIdx?_eq_some_iff_getElem.1 hw).1
      simpa using this
    obtain ⟨h1, h2⟩ := h j hj
    simp only [← h1]
    by_cases hE : E j = true
    · rw [if_pos hE, if_pos hE, h2 hE]
    · rw [if_neg hE, if_neg hE]
theorem fset_slot {F0 : Fr} {dv : Nat → D} (hu : ChkW ops) : ∀ (q : List (Nat × Bool)) (seen : List Nat) (F : Fr), (∀ x ∈ q, x.1 ∉ seen) → (q.map (·.1)).Nodup → (∀ t, F t = slotOf ops F0 dv (fun j => seen.contains j) t) → ∀ t, fset ops dv q F t = slotOf ops F0 dv (fun j => seen.contains j || (q.map (·.1)).contains j) t
  | [], seen, F, _, _, hF, t => by
    rw [show fset ops dv [] F t = F t from rfl, hF t]
    refine slot_congr (fun j _ => ⟨by simp, fun _ => rfl⟩) t
  | (k, pk) :: r, seen, F, hs, hn, hF, t => by
    have hn' := List.nodup_cons.1 hn
    have h1 := fset_slot hu r (k :: seen) (fstep ops dv k F) (fun x hx => by
        intro hxs
        rcases List.mem_cons.1 hxs with e | hxs
        · exact hn'.1 (List.mem_map.2 ⟨x, hx, e⟩)
        · exact hs x (by simp [hx]) hxs) hn'.2 (fun t => fstep_slot hu (by simpa using hs (k, pk) (by simp)) hF t) t
    rw [show fset ops dv ((k, pk) :: r) F t = fset ops dv r (fstep ops dv k F) t from rfl, h1]
    refine slot_congr (fun j _ => ⟨?_, fun _ => rfl⟩) t
    simp only [List.contains_cons, List.map_cons]
    cases (j == k) <;> cases (seen.contains j) <;> simp
theorem chkT_at {i : Nat} : ∀ (tl : List Nat) (b s : List Nat) (k : Nat) (r : List Nat), chkT ops b s tl = true → tl.drop k = i :: r →
    ∃ (b' s' : List Nat), (∀ j ∈ b, j ∈ b') ∧ (∀ j ∈ tl.take k, j ∈ b') ∧ (∀ j, j ∈ s' ↔ j ∈ s ∨ j ∈ tl.take k) ∧ chkI ops s' i = true ∧ (∃ o, ops[i]? = some o ∧ o.guard = none) ∧ ∀ j ∈ b', anc ops ops.size i j = true
  | [], b, s, k, r, h, hd => by simp at hd
  | x :: tl, b, s, 0, r, h, hd => by
    simp at hd
    obtain ⟨rfl, rfl⟩ := hd
    simp only [chkT, Bool.and_eq_true, List.all_eq_true] at h
    obtain ⟨⟨⟨h1, h2⟩, h3⟩, h4⟩ := h
    refine ⟨b, s, fun j hj => hj, by simp, by simp, h1, ?_, h3⟩
    cases ho : ops[x]? with
    | none => rw [ho] at h2; simp at h2
    | some o => rw [ho] at h2; exact ⟨o, rfl, by simpa using h2⟩
  | x :: tl, b, s, k + 1, r, h, hd => by
    simp only [chkT, Bool.and_eq_true] at h
    obtain ⟨b', s', h1, h2, h3, h4⟩ := chkT_at tl (x :: b) (x :: s) k r h.2 (by simpa using hd)
    refine ⟨b', s', fun j hj => h1 j (by simp [hj]), fun j hj => ?_, fun j => ?_, h4⟩
    · rw [List.take_succ_cons] at hj
      rcases List.mem_cons.1 hj with rfl | hj
      · exact h1 j (by simp)
      · exact h2 j hj
    · rw [h3 j, List.take_succ_cons]
      simp only [List.mem_cons]
      constructor
      · rintro ((h | h) | h)
        · exact .inr (.inl h)
        · exact .inl h
        · exact .inr (.inr h)
      · rintro (h | h | h)
        · exact .inl (.inr h)
        · exact .inl (.inl h)
        · exact .inr h
theorem anc_in {E : Nat → Bool} (hsh : ∀ k j, E k = true → dep ops k j = true → E j = true) : ∀ (m i j : Nat), (∀ j, dep ops i j = true → E j = true) → anc ops m i j = true → E j = true
  | 0, i, j, _, h => by simp [anc] at h
  | m + 1, i, j, hd, h => by
    simp only [anc, Bool.or_eq_true, List.any_eq_true, Bool.and_eq_true] at h
    rcases h with h | ⟨k, _, h1, h2⟩
    · exact hd j h
    · exact anc_in hsh m k j (fun j' hj' => hsh k j' (hd k h1) hj') h2
/-- To an operation in the order that is told. -/
theorem dqs_at {F0 : Fr} {dv : Nat → D} (hu : ChkW ops) {i : Nat} {pu : Bool} : ∀ (q : List (Nat × Bool)) (seen : List Nat) (F : Fr), (∀ x ∈ q, x.1 ∉ seen) → (q.map (·.1)).Nodup → (∀ t, F t = slotOf ops F0 dv (fun j => seen.contains j) t) → dqs P n ops σ dv q F → chkQ ops seen q = true → (i, pu) ∈ q →
    ∃ F' seen' o, ops[i]? = some o ∧ dqv P ops σ pu o F' (dv i) ∧ (∀ t, o.dst = some t → t < n) ∧ (∀ t, F' t = slotOf ops F0 dv (fun j => seen'.contains j) t) ∧ chkI ops seen' i = true ∧ (∀ j ∈ seen', j ∈ seen ∨ j ∈ q.map (·.1))
  | [], seen, F, hs, hn, hF, h, hc, hm => by cases hm
  | (k, pk) :: r, seen, F, hs, hn, hF, ⟨⟨o, h1, h2, h3⟩, h4⟩, hc, hm => by
    simp only [chkQ, Bool.and_eq_true] at hc
    rcases List.mem_cons.1 hm with e | hm
    · injection e with e1 e2
      subst e1; subst e2
      exact ⟨F, seen, o, h1, h2, h3, hF, hc.1, fun j hj => .inl hj⟩
    · have hF' := fun t => fstep_slot hu (by simpa using hs (k, pk) (by simp)) hF t
      have hn' := List.nodup_cons.1 hn
      obtain ⟨F', seen', o', g1, g2, g3, g4, g5, g6⟩ := dqs_at hu r (k :: seen) _ (fun x hx => by
        intro hxs
        rcases List.mem_cons.1 hxs with e | hxs
        · exact hn'.1 (List.mem_map.2 ⟨x, hx, e⟩)
        · exact hs x (by simp [hx]) hxs) hn'.2 hF' h4 hc.2 hm
      refine ⟨F', seen', o', g1, g2, g3, g4, g5, fun j hj => ?_⟩
      rcases g6 j hj with h | h
      · rcases List.mem_cons.1 h with rfl | h
        · exact .inr (by simp)
        · exact .inl h
      · exact .inr (by simp [h])
end
end Go.Proofs.YtmpbofmhjjgccaaDoor
/-
  A region that draws its order: the rule.
-/
namespace Go.Proofs.YtmpbofmhjjgccaaDoor
open Go.RowKit
set_option linter.unusedVariables false
set_option linter.unusedSimpArgs false

section
variable {P : Program} {n : Nat} {ops : Array Oper} {σ : St}
theorem opersOf_cons {i : Nat} {r : List Nat} {o : Oper} (ho : ops[i]? = some o) : opersOf ops (i :: r) = o :: opersOf ops r := by
  unfold opersOf
  rw [List.filterMap_cons, ho]
theorem FrRep.slot_put {G : Gh} {a : Act} {df : List Deferred} {F0 : Fr} {val : Nat → D} {E : Nat → Bool} (hu : ChkW ops) (h : FrRep G a n df (slotOf ops F0 val E)) {i : Nat} {o : Oper} (ho : ops[i]? = some o) (hE : E i = false) (hn : ∀ t, o.dst = some t → t < n) {v : Value} {d : D} (hr : Rep G v d) :
    FrRep G (a.put o.dst v) n df (slotOf ops F0 (fun k => if k = i then d else val k) (fun k => E k || k == i)) := by
  have hd : dstOf ops i = o.dst := by unfold dstOf; rw [ho]; rfl
  cases hdst : o.dst with
  | none =>
    have e : slotOf ops F0 (fun k => if k = i then d else val k) (fun k => E k || k == i) = slotOf ops F0 val E := funext fun t => slot_none (hd.trans hdst) d t
    rw [e]
    exact h
  | some t0 =>
    have e : slotOf ops F0 (fun k => if k = i then d else val k) (fun k => E k || k == i) = upd (slotOf ops F0 val E) t0 d := funext fun t => Proofs.YtmpbofmhjjgccaaDoor.slot_put hu (hd.trans hdst) hE d t
    rw [e]
    exact h.put (hn t0 hdst) hr
/-- What is one's own behind the ones that are done. -/
structure Owns (acc : List AlE) (E : Nat → Bool) (β : Nat → Nat × Nat) (σ τ : St) : Prop where
  fresh : ∀ e ∈ acc, E e.i = true → Fresh σ (β e.i).1 ∧ e.ok (β e.i).2
  apart : ∀ e ∈ acc, ∀ e' ∈ acc, E e.i = true → E e'.i = true → e.i ≠ e'.i → (β e.i).1 ≠ (β e'.i).1
  here : ∀ e ∈ acc, E e.i = true → τ.own (β e.i).1 = some (e.ow (β e.i).1 (β e.i).2)
  else_ : ∀ b, (∀ e ∈ acc, E e.i = true → (β e.i).1 ≠ b) → τ.own b = σ.own b
theorem Owns.le {acc : List AlE} {E : Nat → Bool} {β : Nat → Nat × Nat} {τ : St} (h : Owns acc E β σ τ) : σ.le τ := fun b x hx => by
  rw [h.else_ b (fun e he hE hb => by
    have := (h.fresh e he hE).1
    rw [hb] at this
    rw [this.own] at hx
    cases hx)]
  exact hx
theorem nodup_inj : ∀ {l : List AlE} {x y : AlE}, (l.map (·.i)).Nodup → x ∈ l → y ∈ l → x.i = y.i → x = y
  | [], x, y, _, hx, _, _ => by cases hx
  | a :: l, x, y, hn, hx, hy, h => by
    have hn' := List.nodup_cons.1 hn
    rcases List.mem_cons.1 hx with hx1 | hx1 <;> rcases List.mem_cons.1 hy with hy1 | hy1
    · rw [hx1, hy1]
    · refine absurd (List.mem_map.2 ⟨y, hy1, ?_⟩ : a.i ∈ l.map (·.i)) hn'.1
      rw [← h, hx1]
    · refine absurd (List.mem_map.2 ⟨x, hx1, ?_⟩ : a.i ∈ l.map (·.i)) hn'.1
      rw [h, hy1]
    · exact nodup_inj hn'.2 hx1 hy1 h
/-- All are done. -/
theorem dfin_all {K : Fr → St → Prop} {β : Nat → Nat × Nat} : ∀ (acc : List AlE) (F : Fr) (σ τ : St), (acc.map (·.i)).Nodup → Owns acc (fun _ => true) β σ τ → dfin ops K acc F σ → K (acc.foldl (fun F e => putA ops e (β e.i).1 (β e.i).2 F) F) τ
  | [], F, σ, τ, _, h, hk => by
    have : τ = σ := St.ext' fun b => h.else_ b (by simp)
    rw [this]
    exact hk
  | e :: acc, F, σ, τ, hn, h, hk => by
    have hn' := List.nodup_cons.1 hn
    have hne : ∀ e' ∈ acc, e.i ≠ e'.i := fun e' he' heq => hn'.1 (List.mem_map.2 ⟨e', he', heq.symm⟩)
    obtain ⟨h1, h2⟩ := h.fresh e (by simp) rfl
    refine dfin_all acc _ _ τ hn'.2 ⟨fun e' he' _ => ⟨?_, (h.fresh e' (by simp [he']) rfl).2⟩, fun e1 h1 e2 h2 _ _ hi => h.apart e1 (by simp [h1]) e2 (by simp [h2]) rfl rfl hi, fun e' he' _ => h.here e' (by simp [he']) rfl, fun b hb => ?_⟩ (hk _ _ h1 h2)
    · have h3 := (h.fresh e' (by simp [he']) rfl).1
      unfold Fresh at h3 ⊢
      rw [own_ne _ _ (fun heq => h.apart e (by simp) e' (by simp [he']) rfl rfl (hne e' he') heq.symm)]
      exact h3
    · rw [own_set]
      split
      · rename_i heq
        subst heq
        exact h.here e (by simp) rfl
      · rename_i hneq
        refine h.else_ b (fun e' he' _ => ?_)
        rcases List.mem_cons.1 he' with rfl | he'
        · exact fun h => hneq h.symm
        · exact hb e' he' rfl
theorem fold_slot {β : Nat → Nat × Nat} (hu : ChkW ops) {F0 : Fr} : ∀ (acc : List AlE) (F : Fr) (val : Nat → D) (E : Nat → Bool), (acc.map (·.i)).Nodup → (∀ e ∈ acc, E e.i = false) → (∀ t, F t = slotOf ops F0 val E t) →
    ∀ t, acc.foldl (fun F e => putA ops e (β e.i).1 (β e.i).2 F) F t = slotOf ops F0 (fun j => match acc.find? (fun e => e.i == j) with | some e => e.d (β j).1 (β j).2 | none => val j) (fun j => E j || (acc.map (·.i)).contains j) t
  | [], F, val, E, _, _, hF, t => by
    rw [List.foldl_nil, hF t]
    exact slot_congr (fun j _ => ⟨by simp, fun _ => rfl⟩) t
  | e :: acc, F, val, E, hn, hE, hF, t => by
    have hn' := List.nodup_cons.1 hn
    have hEe := hE e (by simp)
    have hstep : ∀ t, putA ops e (β e.i).1 (β e.i).2 F t = slotOf ops F0 (fun k => if k = e.i then e.d (β e.i).1 (β e.i).2 else val k) (fun k => E k || k == e.i) t := fun t => by
      unfold putA
      cases hd : dstOf ops e.i with
      | none =>
        rw [slot_none hd]
        exact hF t
      | some t0 =>
        rw [slot_put hu hd hEe]
        simp only [upd]
        split
        · rfl
        · exact hF t
    have hne : ∀ e' ∈ acc, e'.i ≠ e.i := fun e' he' heq => hn'.1 (List.mem_map.2 ⟨e', he', heq⟩)
    rw [List.foldl_cons, fold_slot hu acc _ _ _ hn'.2 (fun e' he' => by simp [hE e' (by simp [he']), hne e' he']) hstep t]
    refine slot_congr (fun j _ => ⟨?_, fun _ => ?_⟩) t
    · simp only [List.map_cons, List.contains_cons]
      cases E j <;> cases (j == e.i) <;> simp
    · by_cases hj : e.i = j
      · subst hj
        have hnf : acc.find? (fun e' => e'.i == e.i) = none := List.find?_eq_none.2 (fun e' he' => by simpa using hne e' he')
        rw [hnf, List.find?_cons_of_pos (p := fun e' : AlE => e'.i == e.i) (by simp)]
        simp
      · have hj' : ¬ (e.i == j) = true := by simpa using hj
        rw [List.find?_cons_of_neg (p := fun e : AlE => e.i == j) hj']
        cases acc.find? (fun e => e.i == j) with
        | none => simp [Ne.symm hj]
        | some e' => rfl
/-- In whatever order: the rule. -/
theorem draw_rule (hm : P.follows .mixedOrders = true) (q : List (Nat × Bool)) (al : List Nat) (tl : List Nat) (hc : chk ops q al tl = true) {K : Fr → St → Prop} {EP : Value → St → Prop} {F0 : Fr} (h : dq P n ops σ (dtail P n ops σ al tl K EP) q F0) : adraw P n ops K EP F0 σ := by
  intro base w G a df Q id hS hF hQ hQE
  unfold chk at hc
  simp only [Bool.and_eq_true, decide_eq_true_eq] at hc
  obtain ⟨⟨⟨⟨⟨⟨c1, c7⟩, c2⟩, c3⟩, c4⟩, c5⟩, c6⟩ := hc
  have hu : ChkW ops := ⟨fun i t hi => by
    have hlt : i < ops.size := by
      unfold dstOf at hi
      cases ho : ops[i]? with
      | none => rw [ho] at hi; cases hi
      | some o => exact (Array.getElem?_eq_some_iff.1 ho).1
    have := List.all_eq_true.1 c1 i (List.mem_range.2 hlt)
    rw [hi] at this
    simpa using this⟩
  have hcov : ∀ i, i < ops.size → i ∈ q.map (·.1) ∨ i ∈ al ∨ i ∈ tl := fun i hi => by
    have := List.all_eq_true.1 c2 i (List.mem_range.2 hi)
    simp only [Bool.or_eq_true, List.contains_iff_mem] at this
    rcases this with (h | h) | h
    · exact .inl h
    · exact .inr (.inl h)
    · exact .inr (.inr h)
  have hnq : (q.map (·.1)).Nodup := (List.nodup_append.1 (List.nodup_append.1 c3).1).1
  have hqal : ∀ i ∈ q.map (·.1), i ∉ al := fun i hi hj => (List.nodup_append.1 (List.nodup_append.1 c3).1).2.2 i hi i hj rfl
  have hqtl : ∀ i ∈ q.map (·.1), i ∉ tl := fun i hi hj => (List.nodup_append.1 c3).2.2 i (List.mem_append_left _ hi) i hj rfl
  have haltl : ∀ i ∈ al, i ∉ tl := fun i hi hj => (List.nodup_append.1 c3).2.2 i (List.mem_append_right _ hi) i hj rfl
  have hntl : tl.Nodup := (List.nodup_append.1 c3).2.1
  obtain ⟨dv, hdqs, hK⟩ := dq_inv q F0 hnq h
  have hFall := fset_slot (F0 := F0) (dv := dv) hu q [] F0 (by simp) hnq (fun t => by unfold slotOf; cases wr ops t <;> simp)
  obtain ⟨inq, hinq, hninq⟩ : ∃ inq : Nat → Bool, (∀ j, j ∈ q.map (·.1) → inq j = true) ∧ (∀ j, j ∉ q.map (·.1) → inq j = false) :=
    ⟨fun j => (q.map (·.1)).contains j, fun j h => List.contains_iff_mem.2 h, fun j h => by cases hc : (q.map (·.1)).contains j with | false => exact hc | true => exact absurd (List.contains_iff_mem.1 hc) h⟩
  have hiff : ∀ j, inq j = true → j ∈ q.map (·.1) := fun j h => by
    by_cases hj : j ∈ q.map (·.1)
    · exact hj
    · rw [hninq j hj] at h; cases h
  let full (val : Nat → D) (r : List Nat) : Fr := slotOf ops F0 (fun j => if inq j then dv j else val j) (fun j => !r.contains j)
  have hnal : al.Nodup := (List.nodup_append.1 (List.nodup_append.1 c3).1).2.1
  obtain ⟨acc, hacc, hfin, hobl⟩ := dals_inv al [] hK
  rw [List.nil_append] at hfin
  have hmem : ∀ i, i ∈ al ↔ ∃ e ∈ acc, e.i = i := fun i => by rw [← hacc, List.mem_map]
  have base0 : ∀ t, fset ops dv q F0 t = slotOf ops F0 dv (fun j => (q.map (·.1)).contains j) t := fun t => by
    rw [hFall t]
    exact slot_congr (fun j _ => ⟨by simp, fun _ => rfl⟩) t
  let Com (E : Nat → Bool) (G' : Gh) (val : Nat → D) (τ : St) (a : Act) (w : World) : Prop := G.le G' ∧ Sim base w G' τ ∧ FrRep G' a n df (slotOf ops F0 val E) ∧ ∀ j, j ∈ q.map (·.1) → E j = true → val j = dv j
  let InvA (E : Nat → Bool) (a : Act) (w : World) : Prop := ∃ G' val τ β, Com E G' val τ a w ∧ (∀ j ∈ tl, E j = false) ∧ Owns acc E β σ τ ∧ ∀ e ∈ acc, E e.i = true → val e.i = e.d (β e.i).1 (β e.i).2
  let InvB (E : Nat → Bool) (a : Act) (w : World) : Prop := ∃ G' val τ Fk k, Com E G' val τ a w ∧ (∀ j ∈ tl.take k, E j = true) ∧ (∀ j ∈ tl.drop k, E j = false) ∧ (∀ x ∈ q, x.2 = false → E x.1 = true) ∧ (∀ j ∈ al, E j = true) ∧
    aops P n ops K (fun v _ τ => EP v τ) (opersOf ops (tl.drop k)) Fk τ ∧ ∀ t, Fk t = full val (tl.drop k) t
  have switch : ∀ E a w, InvA E a w → (∀ x ∈ q, x.2 = false → E x.1 = true) → (∀ j ∈ al, E j = true) → InvB E a w := by
    rintro E a w ⟨G', val, τ, β, hcom, htl, hown, hval⟩ hr hl
    have hall : ∀ e ∈ acc, E e.i = true := fun e he => hl e.i ((hmem e.i).2 ⟨e, he, rfl⟩)
    have hown' : Owns acc (fun _ => true) β σ τ := ⟨fun e he _ => hown.fresh e he (hall e he), fun e he e' he' _ _ => hown.apart e he e' he' (hall e he) (hall e' he'), fun e he _ => hown.here e he (hall e he), fun b hb => hown.else_ b (fun e he _ => hb e he rfl)⟩
    have hk := dfin_all acc _ σ τ (by rw [hacc]; exact hnal) hown' hfin
    refine ⟨G', val, τ, _, 0, hcom, by simp, by simpa using htl, hr, hl, by simpa using hk, fun t => ?_⟩
    rw [fold_slot hu acc _ dv (fun j => (q.map (·.1)).contains j) (by rw [hacc]; exact hnal) (fun e he => by
      have : e.i ∉ q.map (·.1) := fun h => hqal e.i h ((hmem e.i).2 ⟨e, he, rfl⟩)
      simpa using this) base0 t]
    refine slot_congr (fun j hj => ?_) t
    rcases hcov j hj with h | h | h
    · have h1 := hqtl j h
      have h2 := hqal j h
      have h3 : acc.find? (fun e => e.i == j) = none := List.find?_eq_none.2 (fun e he => by
        have : e.i ≠ j := fun heq => h2 ((hmem j).2 ⟨e, he, heq⟩)
        simpa using this)
      exact ⟨by simp [h, h1], fun _ => by rw [h3]; simp only [hinq j h, if_true]⟩
    · have h1 := haltl j h
      have h2 : j ∉ q.map (·.1) := fun h' => hqal j h' h
      obtain ⟨e, he, hei⟩ := (hmem j).1 h
      have h4 : (acc.map (·.i)).contains j = true := by rw [hacc]; exact List.contains_iff_mem.2 h
      have h8 : tl.contains j = false := by
        cases hc : tl.contains j with
        | false => rfl
        | true => exact absurd (List.contains_iff_mem.1 hc) h1
      refine ⟨by simp only [h4, h8, List.drop_zero, Bool.or_true, Bool.not_false], fun _ => ?_⟩
      cases hf : acc.find? (fun e => e.i == j) with
      | none =>
        have := List.find?_eq_none.1 hf e he
        simp [hei] at this
      | some e' =>
        have h5 : e'.i = j := by simpa using List.find?_some hf
        have h6 := hval e' (List.mem_of_find?_eq_some hf) (hall e' (List.mem_of_find?_eq_some hf))
        rw [h5] at h6
        simp only [hninq j h2, if_false, Bool.false_eq_true]
        exact h6.symm
    · have h1 : j ∉ q.map (·.1) := fun hq => hqtl j hq h
      have h2 : j ∉ al := fun ha => haltl j ha h
      have h4 : (acc.map (·.i)).contains j = false := by
        rw [hacc]
        cases hc : al.contains j with
        | false => rfl
        | true => exact absurd (List.contains_iff_mem.1 hc) h2
      have h5 : (q.map (·.1)).contains j = false := by
        cases hc : (q.map (·.1)).contains j with
        | false => rfl
        | true => exact absurd (List.contains_iff_mem.1 hc) h1
      have h6 : tl.contains j = true := List.contains_iff_mem.2 h
      refine ⟨by simp only [h4, h5, List.drop_zero, h6]; rfl, fun hc => ?_⟩
      exfalso
      have hc' : ((q.map (·.1)).contains j || (acc.map (·.i)).contains j) = true := hc
      rw [h4, h5] at hc'
      cases hc'
  let Inv (L : Array Bool) (a : Act) (w : World) : Prop := (∀ k j, L.getD k false = true → dep ops k j = true → L.getD j false = true) ∧ (InvA (fun j => L.getD j false) a w ∨ InvB (fun j => L.getD j false) a w)
  refine wp_region_any hm (wpAny_inv Inv ?_ ?_ ops.size _ _ _ (by simp) ?_ ?_)
  · rintro L a w hL ⟨hsh, hI⟩ i hi
    obtain ⟨h1, o, ho, h2⟩ := mem_ready.1 hi
    have hlt : i < ops.size := (Array.getElem?_eq_some_iff.1 ho).1
    have hiL : i < L.size := by rw [hL]; exact hlt
    obtain ⟨E, hEL⟩ : ∃ E : Nat → Bool, (fun j => L.getD j false) = E := ⟨_, rfl⟩
    have hEj : ∀ j, L.getD j false = E j := fun j => congrFun hEL j
    have hi0 : E i = false := by rw [← hEj]; simpa [hiL] using h1
    have hdep : ∀ j, dep ops i j = true → E j = true := by
      intro j hj
      unfold dep at hj
      rw [ho] at hj
      obtain ⟨e, he, hb⟩ := List.any_eq_true.1 hj
      simp only [Bool.and_eq_true, beq_iff_eq] at hb
      have := h2 e (by simpa using he) hb.2
      rw [hb.1] at this
      rw [← hEj]
      exact this
    have hshE : ∀ k j, E k = true → dep ops k j = true → E j = true := fun k j hk hd => by
      rw [← hEj] at hk ⊢
      exact hsh k j hk hd
    have hnew : (fun j => (L.setIfInBounds i true).getD j false) = fun j => E j || j == i := by
      funext j
      rw [getD_set L i j true false hiL]
      by_cases h : i = j
      · subst h; simp
      · rw [if_neg h, hEj]
        have : (j == i) = false := by simp; omega
        rw [this, Bool.or_false]
    have hsh' : ∀ k j, (L.setIfInBounds i true).getD k false = true → dep ops k j = true → (L.setIfInBounds i true).getD j false = true := by
      intro k j hk hkj
      rw [show (L.setIfInBounds i true).getD k false = _ from congrFun hnew k] at hk
      rw [show (L.setIfInBounds i true).getD j false = _ from congrFun hnew j]
      simp only [Bool.or_eq_true, beq_iff_eq] at hk ⊢
      rcases hk with hk | rfl
      · exact .inl (hshE k j hk hkj)
      · exact .inl (hdep j hkj)
    have fin : ∀ a' w', (InvA (fun j => E j || j == i) a' w' ∨ InvB (fun j => E j || j == i) a' w') → Inv (L.setIfInBounds i true) a' w' := by
      intro a' w' hh
      refine ⟨hsh', ?_⟩
      rw [hnew]
      exact hh
    replace hI : InvA E a w ∨ InvB E a w := by rw [← hEL]; exact hI
    clear hnew hsh' hsh
    have hsh := hshE
    unfold wpOp
    rw [ho]
    -- what is known in both cases
    have hsimI : ∀ G' val τ (a : Act) (w : World), Com E G' val τ a w → i ∈ q.map (·.1) → (∀ x ∈ q, x.1 = i → x.2 = true ∨ σ.le τ) → ∀ (X : Act → World → Prop), (∀ a' w' G'' val', Com (fun j => E j || j == i) G'' val' τ a' w' → (∀ j, j ≠ i → val' j = val j) → X a' w') →
        if Region.wanted o (yielded ops a.tmps) then o.wp P a w X Q ∨ (o.asks P a w ∧ LetsOut Q) else X (a.put o.dst undef) w := by
      rintro G' val τ a w ⟨k1, k2, k3, k4⟩ hiq hpu X hX
      obtain ⟨⟨i', pu⟩, hmem, e⟩ := List.mem_map.1 hiq
      simp only at e
      subst e
      obtain ⟨F', seen', o', g1, g2, g3, g4, g5, g6⟩ := dqs_at (F0 := F0) hu q [] F0 (by simp) hnq (fun t => by unfold slotOf; cases wr ops t <;> simp) hdqs c4 hmem
      rw [ho] at g1
      injection g1 with g1
      subst g1
      have hval : ∀ j, seen'.contains j = true → E j = true → val j = dv j := fun j hj hE => by
        rcases g6 j (by simpa using hj) with h | h
        · simp at h
        · exact k4 j h hE
      have hsee := sees ho g5 g4 hval hsh hi0 hdep
      have next : ∀ v w' G'' d', G'.le G'' → Sim base w' G'' τ → Rep G'' v d' → D.Le d' (dv i') → X (a.put o.dst v) w' := fun v w' G'' d' e1 e2 e3 e4 => by
        refine hX _ _ G'' (fun k => if k = i' then dv i' else val k) ⟨Gh.le_trans k1 e1, e2, (k3.mono e1).slot_put hu ho hi0 g3 (e3.le e4), fun j hj hE => ?_⟩ (fun j hj => if_neg hj)
        by_cases hji : j = i'
        · subst hji; simp
        · simp only [if_neg hji]
          simp only [Bool.or_eq_true, beq_iff_eq] at hE
          exact k4 j hj (hE.resolve_right hji)
      have run : obl P σ pu o F' (dv i') → o.wp P a w X Q := fun ho' => by
        have h5 := ho' τ (by
          rcases hpu (i', pu) hmem rfl with h | h
          · exact .inl h
          · exact .inr h)
        refine aop_sound (aop_congr hsee h5) k2 k3 (fun v w' G'' d' τ' e1 e2 e3 e4 => ?_) (fun v w' G'' τ' e1 e2 e3 => e3.elim)
        exact next v w' G'' d' e1 (e2.weaken e4.2) e3 e4.1
      unfold dqv at g2
      cases hg : o.guard with
      | none =>
        simp only [hg] at g2
        rw [if_pos (by simp [Region.wanted, hg])]
        exact .inl (run g2)
      | some jb =>
        obtain ⟨j, b⟩ := jb
        simp only [hg] at g2
        obtain ⟨t, e1, g2⟩ := g2
        unfold chkI at g5
        rw [ho] at g5
        simp only [hg, Bool.and_eq_true] at g5
        have hEj := hdep j g5.2.2
        have hslot : ∀ x, F' t = .v x → slotOf ops F0 val E t = .v x := by
          intro x e2
          have e5 := g4 t
          rw [e2] at e5
          unfold slotOf at e5 ⊢
          rw [hu.uniq j t e1] at e5 ⊢
          simp only [g5.2.1, if_true, hEj] at e5 ⊢
          rw [hval j g5.2.1 hEj]
          exact e5.symm
        rcases g2 with ⟨p, e2, e3, e4⟩ | ⟨⟨xs, e2⟩, e4⟩
        · have hw := wanted_of k3 hg e1 (hslot _ e2)
          by_cases hpb : p = b
          · rw [if_pos (by rw [hw]; simp [hpb])]
            exact .inl (run (e3 hpb))
          · rw [if_neg (by rw [hw]; simp [hpb])]
            exact next undef w G' (.v (.tuple #[])) G'.le_refl k2 (.v _) (by rw [e4 (by cases p <;> cases b <;> simp_all)]; exact .refl _)
        · rw [if_neg (by rw [wanted_un k3 hg e1 (hslot _ e2)]; simp)]
          exact next undef w G' (.v (.tuple #[])) G'.le_refl k2 (.v _) (by rw [e4]; exact .refl _)
    rcases hcov i hlt with hiq | hial | hitl
    · -- it changes nothing
      rcases hI with ⟨G', val, τ, β, hcom, htl, hown, hvl⟩ | ⟨G', val, τ, Fk, k, hcom, t1, t2, t3, t4, t5, t6⟩
      · have hnacc : ∀ e ∈ acc, e.i ≠ i := fun e he heq => hqal i hiq ((hmem i).2 ⟨e, he, heq⟩)
        have hE' : ∀ e ∈ acc, (E e.i || e.i == i) = E e.i := fun e he => by simp [hnacc e he]
        refine hsimI G' val τ a w hcom hiq (fun x hx hxi => .inr hown.le) _ (fun a' w' G'' val' hc' hv' => fin a' w' (.inl ⟨G'', val', τ, β, hc', fun j hj => ?_, ⟨fun e he h => hown.fresh e he (by rwa [hE' e he] at h), fun e he e' he' h h' => hown.apart e he e' he' (by rwa [hE' e he] at h) (by rwa [hE' e' he'] at h'), fun e he h => hown.here e he (by rwa [hE' e he] at h), fun b hb => hown.else_ b (fun e he h => hb e he ((hE' e he).trans h))⟩, fun e he h => ?_⟩))
        · have : j ≠ i := fun e => hqtl i hiq (e ▸ hj)
          simp [htl j hj, this]
        · rw [hv' e.i (hnacc e he)]
          exact hvl e he ((hE' e he).symm.trans h)
      · refine hsimI G' val τ a w hcom hiq (fun x hx hxi => .inl ?_) _ (fun a' w' G'' val' hc' hv' => fin a' w' (.inr ⟨G'', val', τ, Fk, k, hc', fun j hj => by simp [t1 j hj], fun j hj => ?_, fun x hx h => by simp [t3 x hx h], fun j hj => by simp [t4 j hj], t5, fun t => ?_⟩))
        · cases hx2 : x.2 with
          | true => rfl
          | false => have := t3 x hx hx2; rw [hxi, hi0] at this; cases this
        · have : j ≠ i := fun e => hqtl i hiq (e ▸ List.mem_of_mem_drop hj)
          simp [t2 j hj, this]
        · rw [t6 t]
          refine slot_congr (fun j _ => ⟨rfl, fun _ => ?_⟩) t
          by_cases hj : j = i
          · subst hj
            have : inq j = true := hinq j hiq
            simp [this]
          · rw [hv' j hj]
    · -- a block of one's own
      rcases hI with ⟨G', val, τ, β, hcom, htl, hown, hvl⟩ | ⟨G', val, τ, Fk, k, hcom, t1, t2, t3, t4, t5, t6⟩
      · obtain ⟨k1, k2, k3, k4⟩ := hcom
        obtain ⟨e0, he0, hei⟩ := (hmem i).1 hial
        subst hei
        obtain ⟨o', ho', hlt', hob⟩ := hobl e0 he0
        rw [ho] at ho'
        injection ho' with ho'
        subst ho'
        have hc5 := List.all_eq_true.1 c5 e0.i hial
        rw [ho] at hc5
        simp only [Bool.and_eq_true] at hc5
        have hg : o.guard = none := by simpa using hc5.2
        change if Region.wanted o (yielded ops a.tmps) = true then o.wp P a w (fun a' w' => Inv (L.setIfInBounds e0.i true) a' w') Q ∨ (o.asks P a w ∧ LetsOut Q) else Inv (L.setIfInBounds e0.i true) (a.put o.dst undef) w
        rw [if_pos (by simp [Region.wanted, hg])]
        have hsee := sees ho hc5.1 base0 (fun j hj hE => k4 j (List.contains_iff_mem.1 hj) hE) hsh hi0 hdep
        refine .inl (aop_sound (aop_congr hsee (hob τ hown.le)) k2 k3 (fun v w' G'' d τ' e1 e2 e3 e4 => ?_) (fun v w' G'' τ' e1 e2 e3 => e3.elim))
        obtain ⟨b, c, hfr, hok, hle, hst⟩ := e4
        have hne : ∀ e ∈ acc, E e.i = true → e.i ≠ e0.i := fun e he hE heq => by rw [heq, hi0] at hE; cases hE
        have hbne : ∀ e ∈ acc, E e.i = true → (β e.i).1 ≠ b := fun e he hE hb => by
          have := hown.here e he hE
          rw [hb, hfr.own] at this
          cases this
        have hfs : Fresh σ b := by
          unfold Fresh
          cases hb : σ.own b with
          | none => rfl
          | some x => have := hown.le b x hb; rw [hfr.own] at this; cases this
        have hcase : ∀ e ∈ acc, (E e.i || e.i == e0.i) = true → (e.i = e0.i) ∨ (E e.i = true ∧ e.i ≠ e0.i) := fun e he h => by
          by_cases hq : e.i = e0.i
          · exact .inl hq
          · exact .inr ⟨by simpa [hq] using h, hq⟩
        have huniq : ∀ e ∈ acc, e.i = e0.i → e = e0 := fun e he hq => by
          have hnd : (acc.map (·.i)).Nodup := by rw [hacc]; exact hnal
          exact nodup_inj hnd he he0 hq
        refine fin _ _ (.inl ⟨G'', fun k => if k = e0.i then e0.d b c else val k, τ.set b (some (e0.ow b c)), fun k => if k = e0.i then (b, c) else β k, ⟨Gh.le_trans k1 e1, e2.weaken hst, (k3.mono e1).slot_put hu ho hi0 hlt' (e3.le hle), fun j hj hE => ?_⟩, fun j hj => ?_, ⟨fun e he h => ?_, fun e he e' he' h h' hd => ?_, fun e he h => ?_, fun b' hb' => ?_⟩, fun e he h => ?_⟩)
        · have hji : j ≠ e0.i := fun e => hqal j hj (e ▸ hial)
          simp only [if_neg hji]
          simp only [Bool.or_eq_true, beq_iff_eq] at hE
          exact k4 j hj (hE.resolve_right hji)
        · have : j ≠ e0.i := fun e => haltl e0.i hial (e ▸ hj)
          simp [htl j hj, this]
        · rcases hcase e he h with hq | ⟨hE, hq⟩
          · have := huniq e he hq
            subst this
            simp only [if_true]
            exact ⟨hfs, hok⟩
          · simp only [if_neg hq]
            exact hown.fresh e he hE
        · rcases hcase e he h with hq | ⟨hE, hq⟩ <;> rcases hcase e' he' h' with hq' | ⟨hE', hq'⟩
          · exact absurd (hq.trans hq'.symm) hd
          · simp only [if_pos hq, if_neg hq']
            exact fun h => hbne e' he' hE' h.symm
          · simp only [if_neg hq, if_pos hq']
            exact hbne e he hE
          · simp only [if_neg hq, if_neg hq']
            exact hown.apart e he e' he' hE hE' hd
        · rcases hcase e he h with hq | ⟨hE, hq⟩
          · have := huniq e he hq
            subst this
            simp only [if_true]
            exact own_same _ _ _
          · simp only [if_neg hq]
            rw [own_ne _ _ (hbne e he hE)]
            exact hown.here e he hE
        · have hbb : b ≠ b' := by
            have := hb' e0 he0 (by simp)
            simpa using this
          rw [own_ne _ _ (Ne.symm hbb)]
          refine hown.else_ b' (fun e he hE => ?_)
          have := hb' e he (by simp [hE])
          rwa [if_neg (hne e he hE)] at this
        · rcases hcase e he h with hq | ⟨hE, hq⟩
          · have := huniq e he hq
            subst this
            simp
          · simp only [if_neg hq]
            exact hvl e he hE
      · have := t4 i hial; rw [hi0] at this; cases this
    · -- a change
      have step : InvB E a w → if Region.wanted o (yielded ops a.tmps) then o.wp P a w (fun a' w' => Inv (L.setIfInBounds i true) a' w') Q ∨ (o.asks P a w ∧ LetsOut Q) else Inv (L.setIfInBounds i true) (a.put o.dst undef) w := by
        rintro ⟨G', val, τ, Fk, k, ⟨k1, k2, k3, k4⟩, t1, t2, t3, t4, t5, t6⟩
        -- it is the first that isn't done
        have hik : i ∈ tl.drop k := by
          have : i ∈ tl.take k ++ tl.drop k := by rw [List.take_append_drop]; exact hitl
          rcases List.mem_append.1 this with h | h
          · have := t1 i h; rw [hi0] at this; cases this
          · exact h
        obtain ⟨r, hr⟩ : ∃ r, tl.drop k = i :: r := by
          cases hd : tl.drop k with
          | nil => rw [hd] at hik; cases hik
          | cons x r =>
            rw [hd] at hik
            rcases List.mem_cons.1 hik with rfl | hx
            · exact ⟨r, rfl⟩
            · -- i stands behind x: x is an ancestor
              exfalso
              obtain ⟨m, hm1⟩ := List.getElem?_of_mem hx
              have hd2 : tl.drop (k + 1 + m) = i :: (r.drop (m + 1)) := by
                have e1 : tl.drop (k + 1 + m) = r.drop m := by
                  rw [← List.drop_drop, ← List.drop_drop, hd]
                  rfl
                rw [e1]
                have hlt' := (List.getElem?_eq_some_iff.1 hm1).1
                rw [List.drop_eq_getElem_cons hlt']
                congr 1
                exact (List.getElem?_eq_some_iff.1 hm1).2
              obtain ⟨b', s', _, g2, _, _, _, g6⟩ := chkT_at tl _ _ (k + 1 + m) _ c6 hd2
              have hxm : x ∈ tl.take (k + 1 + m) := by
                rw [show k + 1 + m = k + (m + 1) by omega, List.take_add, hd]
                simp
              have h7 := anc_in hsh ops.size i x hdep (g6 x (g2 x hxm))
              rw [t2 x (by rw [hd]; simp)] at h7
              cases h7
        obtain ⟨b', s', g1, g2, g3, g4, ⟨o', g5, g5'⟩, g6⟩ := chkT_at tl _ _ k r c6 hr
        rw [ho] at g5
        injection g5 with g5
        subst g5
        rw [hr, opersOf_cons ho] at t5
        unfold aops at t5
        simp only [g5'] at t5
        rw [if_pos (by simp [Region.wanted, g5'])]
        have hs' : ∀ j, j < ops.size → (fun j => s'.contains j) j = !(tl.drop k).contains j := by
          intro j hj
          have h3 : s'.contains j = decide (j ∈ al ++ q.map (·.1) ∨ j ∈ tl.take k) := by
            rw [Bool.eq_iff_iff]
            simpa using g3 j
          simp only [h3]
          have hsplit : ∀ x, x ∈ tl → (x ∈ tl.take k ↔ x ∉ tl.drop k) := by
            intro x hx
            have hnd : (tl.take k ++ tl.drop k).Nodup := by rw [List.take_append_drop]; exact hntl
            constructor
            · exact fun h1 h2 => (List.nodup_append.1 hnd).2.2 x h1 x h2 rfl
            · intro h1
              have : x ∈ tl.take k ++ tl.drop k := by rw [List.take_append_drop]; exact hx
              exact (List.mem_append.1 this).resolve_right h1
          rcases hcov j hj with h | h | h
          · have h1 : j ∉ tl.drop k := fun hd => hqtl j h (List.mem_of_mem_drop hd)
            have h2 : j ∈ al ++ q.map (·.1) := List.mem_append_right _ h
            simp [h1, h2]
          · have h1 : j ∉ tl.drop k := fun hd => haltl j h (List.mem_of_mem_drop hd)
            have h2 : j ∈ al ++ q.map (·.1) := List.mem_append_left _ h
            simp [h1, h2]
          · have h1 : j ∉ al ++ q.map (·.1) := fun hh => by
              rcases List.mem_append.1 hh with hh | hh
              · exact haltl j hh h
              · exact hqtl j hh h
            have h2 := hsplit j h
            by_cases h3 : j ∈ tl.drop k
            · have h4 : j ∉ tl.take k := fun hh => (h2.1 hh) h3
              simp [h1, h3, h4]
            · simp [h1, h3, h2.2 h3]
        have hFk : ∀ t, Fk t = slotOf ops F0 (fun j => if inq j then dv j else val j) (fun j => s'.contains j) t := fun t => by
          rw [t6 t]
          exact slot_congr (fun j hj => ⟨(hs' j hj).symm, fun _ => rfl⟩) t
        have hval : ∀ j, s'.contains j = true → E j = true → val j = (fun j => if inq j then dv j else val j) j := fun j _ hE => by
          by_cases hj : inq j = true
          · simp only [hj, if_true]
            exact k4 j (hiff j hj) hE
          · simp [hj]
        have hsee := sees ho g4 hFk hval hsh hi0 hdep
        refine .inl (aop_sound (aop_congr hsee t5) k2 k3 (fun v w' G'' d τ' e1 e2 e3 e4 => fin _ _ (.inr ?_)) (fun v w' G'' τ' e1 e2 e3 => hQE v a w' G'' _ τ' (Gh.le_trans k1 e1) e2 (k3.mono e1) e3))
        have hlt' : ∀ t, o.dst = some t → t < n := fun t ht => by rw [ht] at e4; exact e4.1
        have hnr : i ∉ r := by
          have : (tl.drop k).Nodup := hntl.sublist (List.drop_sublist k tl)
          rw [hr] at this
          exact (List.nodup_cons.1 this).1
        have hdr : tl.drop (k + 1) = r := by
          rw [← List.drop_drop, hr]
          rfl
        have htk : tl.take (k + 1) = tl.take k ++ [i] := by
          rw [List.take_add, hr]
          simp
        obtain ⟨F1, hF1, hF1'⟩ : ∃ F1, aops P n ops K (fun v _ τ => EP v τ) (opersOf ops r) F1 τ' ∧ F1 = (match o.dst with | none => Fk | some t => upd Fk t d) := by
          cases hd : o.dst with
          | none => rw [hd] at e4; exact ⟨_, e4, rfl⟩
          | some t => rw [hd] at e4; exact ⟨_, e4.2, rfl⟩
        refine ⟨G'', fun j => if j = i then d else val j, τ', F1, k + 1, ⟨Gh.le_trans k1 e1, e2, (k3.mono e1).slot_put hu ho hi0 hlt' e3, fun j hj hE => ?_⟩, fun j hj => ?_, fun j hj => ?_, fun x hx h => by simp [t3 x hx h], fun j hj => by simp [t4 j hj], by rw [hdr]; exact hF1, fun t => ?_⟩
        · have hji : j ≠ i := fun e => hqtl j hj (e ▸ hitl)
          simp only [if_neg hji]
          simp only [Bool.or_eq_true, beq_iff_eq] at hE
          exact k4 j hj (hE.resolve_right hji)
        · rw [htk] at hj
          rcases List.mem_append.1 hj with hj | hj
          · simp [t1 j hj]
          · simp at hj; simp [hj]
        · rw [hdr] at hj
          have h3 : j ≠ i := fun e => hnr (e ▸ hj)
          simp [t2 j (by rw [hr]; simp [hj]), h3]
        · rw [hF1', hdr]
          have hdo : dstOf ops i = o.dst := by unfold dstOf; rw [ho]; rfl
          have hEi : (fun j => !(tl.drop k).contains j) i = false := by simp [hr]
          have hcg : full (fun j => if j = i then d else val j) r t = slotOf ops F0 (fun m => if m = i then d else (fun j => if inq j then dv j else val j) m) (fun m => (fun j => !(tl.drop k).contains j) m || m == i) t := by
            refine slot_congr (fun j _ => ⟨?_, fun _ => ?_⟩) t
            · rw [hr]
              by_cases hj : j = i
              · subst hj; simp [hnr]
              · have : (j == i) = false := by simpa using hj
                simp [List.contains_cons, this, hj]
            · by_cases hj : j = i
              · subst hj
                have : inq j = false := hninq j (fun h => hqtl j h hitl)
                simp [this]
              · simp [hj]
          rw [hcg]
          cases hd : o.dst with
          | none =>
            rw [slot_none (hdo.trans hd) d t]
            exact t6 t
          | some t0 =>
            rw [slot_put hu (hdo.trans hd) hEi d t]
            simp only [upd]
            split
            · rfl
            · exact t6 t
      rcases hI with hA | hB
      · refine step (switch E a w hA ?_ ?_)
        · intro x hx hx2
          obtain ⟨m, hm1⟩ := List.getElem?_of_mem hitl
          have hlt' := (List.getElem?_eq_some_iff.1 hm1).1
          have hd : tl.drop m = i :: tl.drop (m + 1) := by
            rw [List.drop_eq_getElem_cons hlt']
            congr 1
            exact (List.getElem?_eq_some_iff.1 hm1).2
          obtain ⟨b', s', g1, _, _, _, _, g6⟩ := chkT_at tl _ _ m _ c6 hd
          exact anc_in hsh ops.size i x.1 hdep (g6 x.1 (g1 x.1 (List.mem_append_left _ (List.mem_map.2 ⟨x, List.mem_filter.2 ⟨hx, by simp [hx2]⟩, rfl⟩))))
        · intro j hj
          obtain ⟨m, hm1⟩ := List.getElem?_of_mem hitl
          have hlt' := (List.getElem?_eq_some_iff.1 hm1).1
          have hd : tl.drop m = i :: tl.drop (m + 1) := by
            rw [List.drop_eq_getElem_cons hlt']
            congr 1
            exact (List.getElem?_eq_some_iff.1 hm1).2
          obtain ⟨b', s', g1, _, _, _, _, g6⟩ := chkT_at tl _ _ m _ c6 hd
          exact anc_in hsh ops.size i j hdep (g6 j (g1 j (List.mem_append_right _ hj)))
      · exact step hB
  · rintro L a w hL ⟨hsh, hI⟩ hr
    have hall : ∀ i, i < ops.size → (fun j => L.getD j false) i = true := by
      intro i hi
      induction i using Nat.strongRecOn with
      | _ i ih =>
        cases hc : L.getD i false with
        | true => exact hc
        | false =>
          have : i ∈ Region.ready .any ops L := by
            refine mem_ready.2 ⟨by simpa [hL, hi] using hc, ops[i], Array.getElem?_eq_getElem hi, fun e he hbd => ?_⟩
            have hb : e.on < i := by
              have := List.all_eq_true.1 c7 i (List.mem_range.2 hi)
              rw [Array.getElem?_eq_getElem hi] at this
              have h2 := List.all_eq_true.1 this e (by simpa using he)
              rw [hbd] at h2
              simpa using h2
            exact ih e.on hb (by omega)
          rw [hr] at this
          cases this
    have hlt : ∀ j, j ∈ q.map (·.1) ∨ j ∈ al ∨ j ∈ tl → j < ops.size := by
      intro j hj
      have hc : chkI ops [] j = true ∨ ∃ s, chkI ops s j = true := by
        rcases hj with h | h | h
        · obtain ⟨⟨i', pu⟩, hmem, rfl⟩ := List.mem_map.1 h
          obtain ⟨F', seen', o', g1, g2, g3, g4, g5, g6⟩ := dqs_at (F0 := F0) hu q [] F0 (by simp) hnq (fun t => by unfold slotOf; cases wr ops t <;> simp) hdqs c4 hmem
          exact .inr ⟨_, g5⟩
        · have := List.all_eq_true.1 c5 j h
          simp only [Bool.and_eq_true] at this
          exact .inr ⟨_, this.1⟩
        · obtain ⟨m, hm1⟩ := List.getElem?_of_mem h
          have hlt' := (List.getElem?_eq_some_iff.1 hm1).1
          have hd : tl.drop m = j :: tl.drop (m + 1) := by
            rw [List.drop_eq_getElem_cons hlt']
            congr 1
            exact (List.getElem?_eq_some_iff.1 hm1).2
          obtain ⟨b', s', g1, _, _, g4, _⟩ := chkT_at tl _ _ m _ c6 hd
          exact .inr ⟨_, g4⟩
      have : ∀ s, chkI ops s j = true → j < ops.size := fun s hs => by
        unfold chkI at hs
        cases ho : ops[j]? with
        | none => rw [ho] at hs; cases hs
        | some o => exact (Array.getElem?_eq_some_iff.1 ho).1
      rcases hc with h | ⟨s, h⟩
      · exact this _ h
      · exact this _ h
    have hB : InvB (fun j => L.getD j false) a w := by
      rcases hI with hA | hB
      · exact switch _ _ _ hA (fun x hx _ => hall x.1 (hlt x.1 (.inl (List.mem_map.2 ⟨x, hx, rfl⟩)))) (fun j hj => hall j (hlt j (.inr (.inl hj))))
      · exact hB
    obtain ⟨G', val, τ, Fk, k, ⟨k1, k2, k3, k4⟩, t1, t2, t3, t4, t5, t6⟩ := hB
    have hdr : tl.drop k = [] := by
      cases hd : tl.drop k with
      | nil => rfl
      | cons x r =>
        have h3 := t2 x (by rw [hd]; simp)
        have h4 : x ∈ tl := List.mem_of_mem_drop (by rw [hd]; simp)
        rw [hall x (hlt x (.inr (.inr h4)))] at h3
        cases h3
    rw [hdr] at t5 t6
    refine hQ a w G' Fk τ k1 k2 ?_ t5
    have e : Fk = slotOf ops F0 val (fun j => L.getD j false) := funext fun t => by
      rw [t6 t]
      refine slot_congr (fun j hj => ⟨by simpa using (hall j hj).symm, fun _ => ?_⟩) t
      by_cases hq : inq j = true
      · simp only [hq, if_true]
        exact (k4 j (hiff j hq) (hall j hj)).symm
      · simp [hq]
    rw [e]
    exact k3
  · unfold openOps
    exact Nat.le_trans (List.length_filter_le _ _) (by simp)
  · have hE : (fun j => (Array.replicate ops.size false).getD j false) = fun _ => false := by
      funext j
      simp only [Array.getD_eq_getD_getElem?, Array.getElem?_replicate]
      split <;> rfl
    refine ⟨fun k j hk => ?_, .inl ?_⟩
    · rw [show (Array.replicate ops.size false).getD k false = _ from congrFun hE k] at hk
      cases hk
    · rw [hE]
      refine ⟨G, fun _ => .any, σ, fun _ => (0, 0), ⟨G.le_refl, hS.grow ⟨rfl, rfl, rfl, Nat.le_refl _, fun _ _ => rfl⟩, ?_, fun j _ h => (by cases h)⟩, fun _ _ => rfl, ⟨fun _ _ h => (by cases h), fun _ _ _ _ h => (by cases h), fun _ _ h => (by cases h), fun _ _ => rfl⟩, fun _ _ h => (by cases h)⟩
      · have e : slotOf ops F0 (fun _ => .any) (fun _ => false) = F0 := funext fun t => by unfold slotOf; cases wr ops t <;> simp
        rw [e]
        exact hF
end
end Go.Proofs.YtmpbofmhjjgccaaDoor
