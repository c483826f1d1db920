/-
  Code as it is reasoned about; functions.
-/
import Derived.Test.YtmpbofmhjjgccaaAwH
import Derived.Deep.LoopGhost
namespace Go.Proofs.Ytmpbofmhjjgccaa
open Go.RowKit
set_option linter.unusedVariables false
set_option linter.unusedSimpArgs false

def aput (n : Nat) (F : Fr) (dst : Option Tmp) (d : D) (K : Fr → Prop) : Prop :=
  match dst with
  | none => K F
  | some t => t < n ∧ K (upd F t d)
/-- Operations one behind the other. -/
def aops (P : Program) (n : Nat) (ops : Array Oper) (K : Fr → St → Prop) : List Oper → Fr → St → Prop
  | [], F, σ => K F σ
  | o :: rest, F, σ =>
    match o.guard with
    | none => aop P o.type F σ (fun d σ' => aput n F o.dst d fun F' => aops P n ops K rest F' σ') o.op
    | some (j, b) => match (ops[j]?).bind (·.dst) with
      | some t => match F t with
        | .v (.bool p) => (p = b → aop P o.type F σ (fun d σ' => aput n F o.dst d fun F' => aops P n ops K rest F' σ') o.op) ∧ (p = !b → aput n F o.dst .any fun F' => aops P n ops K rest F' σ)
        | _ => False
      | none => False
inductive AEx where
  | normal | exit (id : Nat) | ret
def AEx.conc : AEx → Exit
  | .normal => .normal
  | .exit id => .exit id
  | .ret => .ret
/-- What is owed at a region that draws its order: what it comes to in any. -/
def adraw (P : Program) (n : Nat) (ops : Array Oper) (K : Fr → St → Prop) (F : Fr) (σ : St) : Prop :=
  ∀ (base w : World) (G : Gh) (a : Act) (Q : Exit → Act → World → Prop) (id : Nat), Sim base w G σ → FrRep G a n F → (∀ a' w' G' F' σ', G.le G' → Sim base w' G' σ' → FrRep G' a' n F' → K F' σ' → Q .normal a' w') → (Code.region id ops true).wp P Q a w
def aseq (K : Fr → St → Prop) (K' : AEx → Fr → St → Prop) : AEx → Fr → St → Prop
  | .normal => K
  | e => K' e
def ablock (id : Nat) (K : AEx → Fr → St → Prop) : AEx → Fr → St → Prop
  | .exit j => fun F σ => if j = id then K .normal F σ else K (.exit j) F σ
  | e => K e
/-- Of less that is known. -/
inductive D.Le : D → D → Prop where
  | refl (d : D) : D.Le d d
  | any (d : D) : D.Le d .any
  | sl (tip : Option (Nat × Nat)) (full : Bool) (sz : Nat) (ds : List (List D)) : D.Le (.slice tip full sz ds) (.slice none false sz ds)
  | lst (tip : Option (Nat × Nat)) (full : Bool) (sz : Nat) (ds : List (List D)) : D.Le (.slice tip full sz ds) (.lst false sz ds)
  | lstF (full : Bool) (sz : Nat) (ds : List (List D)) : D.Le (.lst full sz ds) (.lst false sz ds)
  | nil (full : Bool) (sz : Nat) : D.Le (.v (.slice none 0 0)) (.lst full sz [])
  | agg (cs cs' : List D) (hl : cs.length = cs'.length) (h : ∀ (k : Nat) (d d' : D), cs[k]? = some d → cs'[k]? = some d' → D.Le d d') : D.Le (.agg cs) (.agg cs')
  | tup (cs cs' : List D) (hl : cs.length = cs'.length) (h : ∀ (k : Nat) (d d' : D), cs[k]? = some d → cs'[k]? = some d' → D.Le d d') : D.Le (.tup cs) (.tup cs')
  | tr (d d' d'' : D) (h : D.Le d d') (h' : D.Le d' d'') : D.Le d d''
theorem Rep.le {G : Gh} {d d' : D} (h : D.Le d d') : ∀ {x : Value}, Rep G x d → Rep G x d' := by
  induction h with
  | refl d => exact fun h => h
  | any d => exact fun h => .any _
  | sl tip full sz ds => exact fun h => h.tipless
  | lst tip full sz ds => exact fun h => .lst _ _ _ _ h.tipless
  | lstF full sz ds =>
    intro x h
    cases h with
    | lst0 => exact .lst0 _ _
    | lst _ _ _ _ h => exact .lst _ _ _ _ h.tipless
  | nil full sz =>
    intro x h
    rw [h.v_inv]
    exact .lst0 _ _
  | agg cs cs' hl h ih =>
    intro x hx
    cases hx with
    | agg vs _ hlen h1 hrep =>
      refine .agg vs cs' (by rw [hlen, hl]) h1 (fun k x d hk hd => ?_)
      have hlt : k < cs.length := by rw [hl]; exact (List.getElem?_eq_some_iff.1 hd).1
      exact ih k _ d (List.getElem?_eq_getElem hlt) hd (hrep k x _ hk (List.getElem?_eq_getElem hlt))
  | tup cs cs' hl h ih =>
    intro x hx
    cases hx with
    | tup vs _ hlen hrep =>
      refine .tup vs cs' (by rw [hlen, hl]) (fun k x d hk hd => ?_)
      have hlt : k < cs.length := by rw [hl]; exact (List.getElem?_eq_some_iff.1 hd).1
      exact ih k _ d (List.getElem?_eq_getElem hlt) hd (hrep k x _ hk (List.getElem?_eq_getElem hlt))
  | tr d d' d'' _ _ ih1 ih2 => exact fun h => ih2 (ih1 h)
/-- No list grows in a variable's block. -/
def St.Sep (τ : St) : Prop := ∀ b x, τ.tip b = some x → τ.box b = Option.none
theorem Sim.sep {base w : World} {G : Gh} {σ : St} (h : Sim base w G σ) : σ.Sep := fun b x hx => (h.tip b x.1 x.2.1 x.2.2.1 x.2.2.2 hx).2.1
def FLe (F F' : Fr) : Prop := ∀ t, D.Le (F t) (F' t)
theorem FLe.refl (F : Fr) : FLe F F := fun t => .refl _
theorem FrRep.le {G : Gh} {a : Act} {n : Nat} {F F' : Fr} (h : FrRep G a n F) (hl : FLe F F') : FrRep G a n F' := ⟨h.size, h.defers, fun t => (h.rep t).le (hl t)⟩
/-- With less that is known. -/
def Wk (I : Fr → St → Prop) (F : Fr) (σ : St) : Prop := ∃ F' τ, FLe F F' ∧ τ.le σ ∧ (τ = σ ∨ τ.Sep) ∧ I F' τ
theorem Wk.same {I : Fr → St → Prop} {F : Fr} {σ : St} (h : I F σ) : Wk I F σ := ⟨F, σ, FLe.refl F, σ.le_refl, .inl rfl, h⟩
theorem Wk.less {I : Fr → St → Prop} {F : Fr} {σ : St} (τ : St) (hl : τ.le σ) (hs : τ.Sep) (h : I F τ) : Wk I F σ := ⟨F, τ, FLe.refl F, hl, .inr hs, h⟩
theorem Wk.use {I : Fr → St → Prop} {F : Fr} {σ : St} {base w : World} {G : Gh} {a : Act} {n : Nat} (h : Wk I F σ) (hS : Sim base w G σ) (hF : FrRep G a n F) : ∃ F' τ, I F' τ ∧ Sim base w G τ ∧ FrRep G a n F' := by
  obtain ⟨F', τ, h1, h2, h3, h4⟩ := h
  refine ⟨F', τ, h4, ?_, hF.le h1⟩
  rcases h3 with rfl | h3
  · exact hS
  · exact hS.weaken h2 h3
def awp (P : Program) (n : Nat) : Code → (AEx → Fr → St → Prop) → Fr → St → Prop
  | .skip, K => K .normal
  | .label _, K => K .normal
  | .region _ ops false, K => fun F σ => aops P n ops (K .normal) ops.toList F σ
  | .region _ ops true, K => fun F σ => adraw P n ops (K .normal) F σ
  | .seq x y, K => awp P n x (aseq (Wk (awp P n y K)) K)
  | .cond c x y, K => fun F σ => match ev F c with
    | .v (.bool p) => (p = true → awp P n x K F σ) ∧ (p = false → awp P n y K F σ)
    | _ => False
  | .block id c, K => awp P n c (ablock id K)
  | .loop c, K => fun F σ => ∃ (I : Fr → St → Prop) (μ : Fr → St → Nat), Wk I F σ ∧ ∀ F' σ', I F' σ' → awp P n c (aseq (Wk fun F2 σ2 => I F2 σ2 ∧ μ F2 σ2 < μ F' σ') K) F' σ'
  | .exit id, K => K (.exit id)
  | .ret, K => K .ret
  | _, _ => fun _ _ => False

section
variable {P : Program} {n : Nat} {base : World}
theorem aput_put {F : Fr} {dst : Option Tmp} {d : D} {K : Fr → Prop} (h : aput n F dst d K) {G : Gh} {a : Act} (hF : FrRep G a n F) {v : Value} (hr : Rep G v d) : ∃ F', FrRep G (a.put dst v) n F' ∧ K F' := by
  cases dst with
  | none => exact ⟨F, hF.put0 v, h⟩
  | some t => exact ⟨_, hF.put h.1 hr, h.2⟩
theorem wanted_of {ops : Array Oper} {o : Oper} {G : Gh} {a : Act} {F : Fr} (hF : FrRep G a n F) {j t : Nat} {b p : Bool} (hg : o.guard = some (j, b)) (ht : (ops[j]?).bind (·.dst) = some t) (hp : F t = .v (.bool p)) :
    Region.wanted o (yielded ops a.tmps) = decide (p = b) := by
  have h := hF.rep t
  rw [hp] at h
  have hv := h.v_inv
  have hs : a.tmps[t]? = some (.bool p) := by
    cases hc : a.tmps[t]? with
    | none => rw [Array.getD_eq_getD_getElem?, hc] at hv; cases hv
    | some x => rw [Array.getD_eq_getD_getElem?, hc] at hv; rw [← hv]; rfl
  simp only [Region.wanted, hg]
  unfold yielded
  rw [ht]
  simp only [Option.bind_some, hs]
  cases p <;> cases b <;> rfl
theorem aops_sound {ops : Array Oper} {K : Fr → St → Prop} {Q : Exit → Act → World → Prop} : ∀ (l : List Oper) (F : Fr) (σ : St) (a : Act) (w : World) (G : Gh), aops P n ops K l F σ → Sim base w G σ → FrRep G a n F →
    (∀ a' w' G' F' σ', G.le G' → Sim base w' G' σ' → FrRep G' a' n F' → K F' σ' → Q .normal a' w') → wpList P ops Q l a w
  | [], F, σ, a, w, G, h, hS, hF, hQ => hQ a w G F σ G.le_refl hS hF h
  | o :: rest, F, σ, a, w, G, h, hS, hF, hQ => by
    have step : aop P o.type F σ (fun d σ' => aput n F o.dst d fun F' => aops P n ops K rest F' σ') o.op → o.wp P a w (wpList P ops Q rest) Q := fun h => aop_sound h hS hF (by
      intro v w' G' d σ' hle hS' hr hk
      obtain ⟨F', hF', hk'⟩ := aput_put hk (hF.mono hle) hr
      exact aops_sound rest F' σ' _ w' G' hk' hS' hF' (fun a2 w2 G2 F2 σ2 h2 => hQ a2 w2 G2 F2 σ2 (Gh.le_trans hle h2)))
    have skip : (aput n F o.dst .any fun F' => aops P n ops K rest F' σ) → wpList P ops Q rest (a.put o.dst undef) w := fun h => by
      obtain ⟨F', hF', hk'⟩ := aput_put h hF (.any undef)
      exact aops_sound rest F' σ _ w G hk' hS hF' hQ
    unfold aops at h
    unfold wpList
    cases hg : o.guard with
    | none =>
      simp only [hg] at h
      rw [if_pos (by simp [Region.wanted, hg])]
      exact .inl (step h)
    | some jb =>
      obtain ⟨j, b⟩ := jb
      simp only [hg] at h
      split at h
      · rename_i t ht
        split at h
        · rename_i p hp
          have hw := wanted_of hF hg ht hp
          by_cases hpb : p = b
          · rw [if_pos (by rw [hw]; simp [hpb])]
            exact .inl (step (h.1 hpb))
          · rw [if_neg (by rw [hw]; simp [hpb])]
            exact skip (h.2 (by cases p <;> cases b <;> simp_all))
        · exact h.elim
      · exact h.elim
theorem awp_sound : ∀ (c : Code) (K : AEx → Fr → St → Prop) (Q : Exit → Act → World → Prop) (F : Fr) (σ : St) (a : Act) (w : World) (G : Gh), awp P n c K F σ → Sim base w G σ → FrRep G a n F →
    (∀ e a' w' G' F' σ', G.le G' → Sim base w' G' σ' → FrRep G' a' n F' → K e F' σ' → Q e.conc a' w') → c.wp P Q a w := by
  intro c
  induction c with
  | skip => exact fun K Q F σ a w G h hS hF hQ => wp_skip (hQ .normal a w G F σ G.le_refl hS hF h)
  | label l => exact fun K Q F σ a w G h hS hF hQ => wp_label (hQ .normal a w G F σ G.le_refl hS hF h)
  | region id ops draw =>
    intro K Q F σ a w G h hS hF hQ
    cases draw with
    | false => exact wp_region_list (aops_sound ops.toList F σ a w G h hS hF (fun a' w' G' F' σ' h1 h2 h3 h4 => hQ .normal a' w' G' F' σ' h1 h2 h3 h4))
    | true => exact h base w G a Q id hS hF (fun a' w' G' F' σ' h1 h2 h3 h4 => hQ .normal a' w' G' F' σ' h1 h2 h3 h4)
  | seq x y ihx ihy =>
    intro K Q F σ a w G h hS hF hQ
    refine wp_seq (ihx _ _ F σ a w G h hS hF ?_)
    intro e a' w' G' F' σ' h1 h2 h3 h4
    cases e with
    | normal =>
      obtain ⟨F3, τ, k1, k2, k3⟩ := Wk.use h4 h2 h3
      exact ihy K Q F3 τ a' w' G' k1 k2 k3 (fun e a2 w2 G2 F2 σ2 g1 => hQ e a2 w2 G2 F2 σ2 (Gh.le_trans h1 g1))
    | exit id => exact hQ (.exit id) a' w' G' F' σ' h1 h2 h3 h4
    | ret => exact hQ .ret a' w' G' F' σ' h1 h2 h3 h4
  | cond c x y ihx ihy =>
    intro K Q F σ a w G h hS hF hQ
    simp only [awp] at h
    split at h
    · rename_i p hp
      have hc : a.eval c = .bool p := by
        have := hF.ev c
        rw [hp] at this
        exact this.v_inv
      exact wp_cond_split hc (fun e => ihx K Q F σ a w G (h.1 e) hS hF hQ) (fun e => ihy K Q F σ a w G (h.2 e) hS hF hQ)
    · exact h.elim
  | block id c ih =>
    intro K Q F σ a w G h hS hF hQ
    refine wp_block (ih _ _ F σ a w G h hS hF ?_)
    intro e a' w' G' F' σ' h1 h2 h3 h4
    cases e with
    | normal => exact hQ .normal a' w' G' F' σ' h1 h2 h3 h4
    | exit j =>
      by_cases hj : j = id
      · simp only [AEx.conc, Exit.inBlock, if_pos hj]
        simp only [ablock, if_pos hj] at h4
        exact hQ .normal a' w' G' F' σ' h1 h2 h3 h4
      · simp only [AEx.conc, Exit.inBlock, if_neg hj]
        simp only [ablock, if_neg hj] at h4
        exact hQ (.exit j) a' w' G' F' σ' h1 h2 h3 h4
    | ret => exact hQ .ret a' w' G' F' σ' h1 h2 h3 h4
  | loop c ih =>
    intro K Q F σ a w G h hS hF hQ
    obtain ⟨I, μ, hI, hround⟩ := h
    obtain ⟨F0, σ0, hI0, hS0, hF0⟩ := hI.use hS hF
    refine wp_loop_ghost (fun m a w => ∃ F σ' G', G.le G' ∧ μ F σ' = m ∧ I F σ' ∧ Sim base w G' σ' ∧ FrRep G' a n F) (μ F0 σ0) ⟨F0, σ0, G, G.le_refl, rfl, hI0, hS0, hF0⟩ ?_
    rintro m a w ⟨F, σ, G1, hle, hm, hI, hS, hF⟩
    refine ih _ _ F σ a w G1 (hround F σ hI) hS hF ?_
    intro e a' w' G' F' σ' h1 h2 h3 h4
    cases e with
    | normal =>
      obtain ⟨F3, τ, k1, k2, k3⟩ := Wk.use h4 h2 h3
      exact ⟨μ F3 τ, by rw [← hm]; exact k1.2, F3, τ, G', Gh.le_trans hle h1, rfl, k1.1, k2, k3⟩
    | exit id => exact hQ (.exit id) a' w' G' F' σ' (Gh.le_trans hle h1) h2 h3 h4
    | ret => exact hQ .ret a' w' G' F' σ' (Gh.le_trans hle h1) h2 h3 h4
  | exit id => exact fun K Q F σ a w G h hS hF hQ => wp_exit (hQ (.exit id) a w G F σ G.le_refl hS hF h)
  | ret => exact fun K Q F σ a w G h hS hF hQ => wp_ret (hQ .ret a w G F σ G.le_refl hS hF h)
  | _ => exact fun K Q F σ a w G h hS hF hQ => h.elim
/-! ### Functions -/
/-- What is handed back. -/
def aresL (P : Program) : List ResultVar → Fr → St → (List D → Prop) → Prop
  | [], F, σ, K => K []
  | .tmp t :: rs, F, σ, K => aresL P rs F σ fun ds => K (F t :: ds)
  | .cell a ty :: rs, F, σ, K => wo (layOf P ty) fun l => match F a with
    | .v (.pointer (some ⟨b, o, none⟩)) => match σ.box b with | some (_, cs) => aload l (cs.drop o) fun d => aresL P rs F σ fun ds => K (d :: ds) | none => False
    | _ => False
def aone (K : D → Prop) : List D → Prop
  | [d] => K d
  | ds => K (.tup ds)
def resRun (tmps : Array Value) : ResultVar → Sem Value
  | .tmp t => pure (tmps.getD t undef)
  | .cell b t => do loadVar t (← asAddr (tmps.getD b undef))
theorem results_eq (fn : Func) (tmps : Array Value) : results fn tmps = (do let vs ← (List.toArray <$> fn.results.toList.mapM (resRun tmps)); pure (if h : vs.size = 1 then vs[0] else .tuple vs)) := by
  unfold results
  rw [Array.mapM_eq_mapM_toList]
  congr 2
theorem aresL_sound {G : Gh} {w : World} : ∀ (rs : List ResultVar) (F : Fr) (σ : St) (a : Act) (K : List D → Prop), aresL P rs F σ K → Sim base w G σ → FrRep G a n F →
    ∃ vs ds, (rs.mapM (resRun a.tmps)).run P w = Result.ok vs w ∧ RepL G vs ds ∧ K ds
  | [], F, σ, a, K, h, hS, hF => ⟨[], [], by simp, RepL.nil G, h⟩
  | .tmp t :: rs, F, σ, a, K, h, hS, hF => by
    obtain ⟨vs, ds, h1, h2, h3⟩ := aresL_sound rs F σ a _ h hS hF
    exact ⟨_ :: vs, F t :: ds, by simp [List.mapM_cons, resRun, h1], h2.cons (hF.rep t), h3⟩
  | .cell b t :: rs, F, σ, a, K, h, hS, hF => by
    simp only [aresL] at h
    replace h := wo_inv h
    obtain ⟨l, hl, h⟩ := h
    have hev := hF.rep b
    split at h
    · rename_i g off hx
      rw [hx] at hev
      split at h
      · rename_i T cs hb
        obtain ⟨g1, g2, us, g3, g4, g5⟩ := hS.box g T cs hb
        obtain ⟨v, d, r1, r2, r3⟩ := aload_sound (b := g) (off := off) (w := w) hl (vs := us.drop off) (cs := cs.drop off) ⟨by simp [g4.len], fun k u e h1 h2 => by
          rw [List.getElem?_drop] at h1 h2
          exact g4.rep _ u e h1 h2⟩ (fun y hy => g5 y (List.mem_of_mem_drop hy)) (fun j v hv => by
          rw [List.getElem?_drop] at hv
          rw [blk_cell g3, List.getElem?_toArray]
          exact hv) h
        obtain ⟨vs, ds, h1, h2, h3⟩ := aresL_sound rs F σ a _ r3 hS hF
        exact ⟨v :: vs, d :: ds, by simp [List.mapM_cons, resRun, hev.v_inv, asAddr, r1, h1], h2.cons r2, h3⟩
      · exact h.elim
    · exact h.elim
/-- What a function hands back: of less that is known; its own variables are gone. -/
def Ret (R : D → St → Prop) (σ : St) (d : D) : Prop := ∃ d' τ, D.Le d d' ∧ τ.le σ ∧ τ.Sep ∧ R d' τ
theorem Ret.mk {R : D → St → Prop} {σ : St} {d : D} (d' : D) (τ : St) (hd : D.Le d d') (hτ : τ.le σ) (hs : τ.Sep) (hR : R d' τ) : Ret R σ d := ⟨d', τ, hd, hτ, hs, hR⟩
/-- All that was there before, and no more. -/
theorem Ret.same {R : D → St → Prop} {σ : St} {d : D} (hs : σ.Sep) (hR : R d σ) : Ret R σ d := ⟨d, σ, .refl d, σ.le_refl, hs, hR⟩
def frameOf (ds : List D) : Fr := fun t => ds.getD t .any
/-- A function's contract, out of its code. -/
theorem tri_fn {f : FuncId} {fn : Func} {c : Code} {ds : List D} {σ : St} {R : D → St → Prop} {m : Nat} {rs : Array ResultVar} (hf : P.funcs[f]? = some fn) (hb : fn.body = some c) (hnt : fn.ntmps = m) (hrs : fn.results = rs) (hn : ds.length ≤ m)
    (h : σ.Sep → awp P m c (fun e F σ' => (match e with | .exit _ => False | _ => True) ∧ aresL P rs.toList F σ' (aone (Ret R σ'))) (frameOf ds) σ) : Tri P f ds σ R := by
  subst hnt
  subst hrs
  intro base w G vs hS hA
  refine calls_of_wp hf hb ?_
  have hF : FrRep G { tmps := vs.toArray ++ Array.replicate (fn.ntmps - vs.toArray.size) undef, defers := [] } fn.ntmps (frameOf ds) := by
    have hlen := hA.len
    refine ⟨by simp; omega, rfl, fun t => ?_⟩
    unfold frameOf
    by_cases ht : t < ds.length
    · have ht' : t < vs.length := by rw [hlen]; exact ht
      have e1 : (vs.toArray ++ Array.replicate (fn.ntmps - vs.toArray.size) undef).getD t undef = vs[t] := by
        rw [Array.getD_eq_getD_getElem?, Array.getElem?_append_left (by simpa using ht')]
        simp [ht']
      rw [e1, List.getD_eq_getElem?_getD, List.getElem?_eq_getElem ht]
      exact hA.rep t _ _ (List.getElem?_eq_getElem ht') (List.getElem?_eq_getElem ht)
    · rw [List.getD_eq_getElem?_getD, List.getElem?_eq_none (by omega)]
      exact .any _
  refine awp_sound c _ _ (frameOf ds) σ _ w G (h hS.sep) hS hF ?_
  rintro e a' w' G' F' σ' h1 h2 h3 ⟨he, h4⟩
  obtain ⟨rs, es, hr, hrep, hk⟩ := aresL_sound fn.results.toList F' σ' a' _ h4 h2 h3
  have hres : ∃ v d, (results fn a'.tmps).run P w' = .ok v w' ∧ Rep G' v d ∧ ∃ d' τ, D.Le d d' ∧ τ.le σ' ∧ τ.Sep ∧ R d' τ := by
    have hrun : ∀ (x : Value), (if h : rs.toArray.size = 1 then rs.toArray[0] else Value.tuple rs.toArray) = x → (results fn a'.tmps).run P w' = .ok x w' := by
      intro x hx
      subst hx
      rw [results_eq]
      simp only [Sem.run_bind, Sem.run_map, hr, Result.andThen_ok, Sem.run_pure]
    match es, hk, hrep with
    | [], hk, hrep =>
      have := hrep.inv0
      subst this
      exact ⟨_, .tup [], hrun _ rfl, .tup [] [] rfl (by simp), hk⟩
    | [d], hk, hrep =>
      obtain ⟨x, xs, rfl, hx, hxs⟩ := hrep.inv
      have := hxs.inv0
      subst this
      exact ⟨x, d, hrun _ rfl, hx, hk⟩
    | d1 :: d2 :: es, hk, hrep =>
      refine ⟨.tuple rs.toArray, .tup (d1 :: d2 :: es), hrun _ ?_, .tup rs _ hrep.len hrep.rep, hk⟩
      have hlen := hrep.len
      rw [dif_neg]
      simp [hlen]
  obtain ⟨v, d, hv, hvr, d', τ, hd, hτ, hτ2, hR⟩ := hres
  have hsim : Sim base w' G' τ := h2.weaken hτ hτ2
  cases e with
  | exit id => exact he.elim
  | normal => exact ⟨h3.defers, v, hv, v, d', τ, G', rfl, h1, hsim, hvr.le hd, hR⟩
  | ret => exact ⟨h3.defers, v, hv, v, d', τ, G', rfl, h1, hsim, hvr.le hd, hR⟩
end
end Go.Proofs.Ytmpbofmhjjgccaa
